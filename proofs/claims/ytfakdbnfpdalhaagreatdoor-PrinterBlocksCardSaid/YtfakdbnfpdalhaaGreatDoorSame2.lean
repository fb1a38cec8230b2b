/- The contract of ast.Same at two programs with the same contents. -/
import Derived.Test.YtfakdbnfpdalhaaGreatDoorSame
namespace Go.Proofs.YtfakdbnfpdalhaaGreatDoor
open Go.RowKit Go.Maps
open PP (Tree ArrD TaskD ProgD)
theorem RowV.row {base : Nat} {e : TypeId} {size : Nat} {n : Nat} {A : Option Addr} {c : Nat} {xs : List Value} {bs : List OwnB} (h : RowV base e size (.slice A n c) n xs bs) {W : World} (hb : ∀ x ∈ bs, Blk W x.1 x.2.1 x.2.2) : Row W A xs := by
  intro hne
  rcases h.2 with ⟨_, h2, _⟩ | ⟨g, cap, cur, h1, h2, h3, h4, h5, h6, h7⟩
  · exact absurd (by have := h.1; rw [h2] at this; simpa using this) hne
  · injection h1 with h1 _ _
    subst h1 h7
    have hk := hb (g, e, cur) (by simp)
    refine ⟨g, 0, rfl, hk.lt, fun i v hi => ?_⟩
    rw [Nat.zero_add]
    have := hk.cell i
    rw [this, ← Array.getElem?_toList]
    rw [← h6, List.getElem?_take] at hi
    split at hi
    · exact hi
    · cases hi
/-- A task at cells, as it is read. -/
structure TaskAt (w : World) (b o : Nat) (t : TaskD) (vA : Option Addr) (vc : Nat) (aA : Option Addr) (ac : Nat) (k : Nat) (num : Int) (nm : List UInt8) (kids : List Tree) (kA : Option Addr) (kc : Nat) : Prop where
  c0 : w.cell? ⟨b, o, none⟩ = some (.string ⟨t.name.toArray⟩)
  c1 : w.cell? ⟨b, o + 1, none⟩ = some (.int .i64 t.period)
  c2 : w.cell? ⟨b, o + 2, none⟩ = some (.slice vA t.vars.length vc)
  c3 : w.cell? ⟨b, o + 3, none⟩ = some (.slice aA t.arrays.length ac)
  c4 : w.cell? ⟨b, o + 4, none⟩ = some (.int .u8 (k : Int))
  c5 : w.cell? ⟨b, o + 5, none⟩ = some (.int .i64 num)
  c6 : w.cell? ⟨b, o + 6, none⟩ = some (.string ⟨nm.toArray⟩)
  c7 : w.cell? ⟨b, o + 7, none⟩ = some (.slice kA kids.length kc)
  bd : t.body = .node k num nm kids
  rv : Row w vA (strCells t.vars)
  ra : Row w aA (arrCells t.arrays)
  ks : KidsC w (fun _ => True) kA kids
  lv : t.vars.length ≤ 65536
  la : t.arrays.length ≤ 65536
/-- A row of tasks, as it is read. -/
def TasksR (w : World) (A : Option Addr) (ts : List TaskD) : Prop := ts ≠ [] → ∃ b o, A = some ⟨b, o, none⟩ ∧ b < w.heap.size ∧ ∀ i t, ts[i]? = some t → ∃ vA vc aA ac k num nm kids kA kc, TaskAt w b (o + i * 8) t vA vc aA ac k num nm kids kA kc
theorem TaskAt.below {w w' : World} {b o : Nat} {t : TaskD} {vA : Option Addr} {vc : Nat} {aA : Option Addr} {ac : Nat} {k : Nat} {num : Int} {nm : List UInt8} {kids : List Tree} {kA : Option Addr} {kc : Nat}
    (h : TaskAt w b o t vA vc aA ac k num nm kids kA kc) (hb : Below w.heap.size w w') (hlt : b < w.heap.size) : TaskAt w' b o t vA vc aA ac k num nm kids kA kc :=
  ⟨(hb.cell (p := ⟨b, o, none⟩) hlt).trans h.c0, (hb.cell (p := ⟨b, o + 1, none⟩) hlt).trans h.c1, (hb.cell (p := ⟨b, o + 2, none⟩) hlt).trans h.c2, (hb.cell (p := ⟨b, o + 3, none⟩) hlt).trans h.c3, (hb.cell (p := ⟨b, o + 4, none⟩) hlt).trans h.c4, (hb.cell (p := ⟨b, o + 5, none⟩) hlt).trans h.c5, (hb.cell (p := ⟨b, o + 6, none⟩) hlt).trans h.c6, (hb.cell (p := ⟨b, o + 7, none⟩) hlt).trans h.c7,
    h.bd, h.rv.below hb, h.ra.below hb, h.ks.keep ⟨hb.size, fun g _ hg => hb.block g hg⟩, h.lv, h.la⟩
theorem TasksR.below {w w' : World} {A : Option Addr} {ts : List TaskD} (h : TasksR w A ts) (hb : Below w.heap.size w w') : TasksR w' A ts := fun hn => by
  obtain ⟨b, o, rfl, hlt, hc⟩ := h hn
  refine ⟨b, o, rfl, Nat.lt_of_lt_of_le hlt hb.size, fun i t hi => ?_⟩
  obtain ⟨vA, vc, aA, ac, k, num, nm, kids, kA, kc, ht⟩ := hc i t hi
  exact ⟨vA, vc, aA, ac, k, num, nm, kids, kA, kc, ht.below hb hlt⟩
theorem tasks_at : ∀ {els : List TaskEl} {i : Nat} {x : TaskEl}, els[i]? = some x → ∀ j v, x.cells[j]? = some v → (tasksCells els)[i * 8 + j]? = some v
  | [], i, x, h, _, _, _ => by simp at h
  | y :: els, 0, x, h, j, v, hv => by
    simp at h; subst h
    have hj : j < y.cells.length := (List.getElem?_eq_some_iff.1 hv).1
    rw [show tasksCells (y :: els) = y.cells ++ tasksCells els from by simp [tasksCells], Nat.zero_mul, Nat.zero_add, List.getElem?_append_left hj]
    exact hv
  | y :: els, i + 1, x, h, j, v, hv => by
    have hl : y.cells.length = 8 := rfl
    rw [show tasksCells (y :: els) = y.cells ++ tasksCells els from by simp [tasksCells], List.getElem?_append_right (by rw [hl]; omega), hl, show (i + 1) * 8 + j - 8 = i * 8 + j from by omega]
    exact tasks_at (by simpa using h) j v hv
/-- A program, as it is read. -/
structure ProgR (w : World) (A : Option Addr) (T : Option Addr) (p : ProgD) : Prop where
  ra : Row w A (arrCells p.shared)
  rt : TasksR w T p.tasks
  la : p.shared.length ≤ 65536
  lt : p.tasks.length ≤ 65536
theorem ProgR.below {w w' : World} {A T : Option Addr} {p : ProgD} (h : ProgR w A T p) (hb : Below w.heap.size w w') : ProgR w' A T p := ⟨h.ra.below hb, h.rt.below hb, h.la, h.lt⟩
theorem ProgV.read {w : World} {base : Nat} {va vt : Value} {p : ProgD} {ba els bt bx kx} (h : ProgV w base va vt p ba els bt bx kx) : ∃ A c T d, va = .slice A p.shared.length c ∧ vt = .slice T p.tasks.length d ∧ ProgR w A T p := by
  obtain ⟨A, c, rfl⟩ := h.ra.form
  obtain ⟨T, d, rfl⟩ := h.rt.form
  have hn : els.length = p.tasks.length := by rw [h.td]; simp
  refine ⟨A, c, T, d, rfl, by rw [hn], ⟨h.ra.row (fun x hx => (h.bl x (by simp [hx])).1), ?_, h.la, by rw [← hn]; exact h.lt⟩⟩
  intro hne
  have hne2 : tasksCells els ≠ [] := by
    intro e
    apply hne
    rw [h.td]
    cases els with
    | nil => rfl
    | cons x els => simp [tasksCells, TaskEl.cells] at e
  obtain ⟨b, o, rfl, hlt, hc⟩ := h.rt.row (fun x hx => (h.bl x (by simp [hx])).1) hne2
  refine ⟨b, o, rfl, hlt, fun i t hi => ?_⟩
  rw [h.td, List.getElem?_map] at hi
  obtain ⟨x, hx, rfl⟩ := Option.map_eq_some_iff.1 hi
  have ok := h.ok x (List.mem_of_getElem? hx)
  have hrv := ok.rv
  have hra := ok.ra
  obtain ⟨vA, vc, hvv⟩ := hrv.form
  obtain ⟨aA, ac, hva⟩ := hra.form
  rw [hvv] at hrv
  rw [hva] at hra
  have C := fun j v (hv : x.cells[j]? = some v) => (show w.cell? ⟨b, o + (i * 8 + j), none⟩ = some v from hc _ _ (tasks_at hx j v hv))
  refine ⟨vA, vc, aA, ac, 47, 0, [], x.kids, x.A, x.c, ⟨C 0 _ rfl, C 1 _ rfl, ?_, ?_, C 4 _ rfl, C 5 _ rfl, C 6 _ rfl, C 7 _ rfl, rfl, hrv.row (fun y hy => (h.bl y (by simp [ok.mv y hy])).1), hra.row (fun y hy => (h.bl y (by simp [ok.ma y hy])).1), (h.ks _ ok.mx).weak (fun _ _ _ => trivial), ?_, ?_⟩⟩
  · exact (C 2 _ rfl).trans (by rw [hvv]; rfl)
  · exact (C 3 _ rfl).trans (by rw [hva]; rfl)
  · have := ok.lv; show x.vs.length ≤ _; omega
  · have := ok.la; show x.ar.length ≤ _; omega

theorem cf_equalTasks (u v : Value) (W : World) : Sem.run Tryz.prog (callFunc 68 #[u, v]) W = .ok (Next.enter 68 #[u, v]) W := by kernel_rfl
theorem Blk.eight {w : World} {g : Nat} {t : TypeId} {a0 a1 a2 a3 a4 a5 a6 a7 : Value} (h : Blk w g t #[a0, a1, a2, a3, a4, a5, a6, a7]) : w.cell? ⟨g, 0, none⟩ = some a0 ∧ w.cell? ⟨g, 1, none⟩ = some a1 ∧ w.cell? ⟨g, 2, none⟩ = some a2 ∧ w.cell? ⟨g, 3, none⟩ = some a3 ∧ w.cell? ⟨g, 4, none⟩ = some a4 ∧ w.cell? ⟨g, 5, none⟩ = some a5 ∧ w.cell? ⟨g, 6, none⟩ = some a6 ∧ w.cell? ⟨g, 7, none⟩ = some a7 :=
  ⟨h.cell 0, h.cell 1, h.cell 2, h.cell 3, h.cell 4, h.cell 5, h.cell 6, h.cell 7⟩
section
set_option maxHeartbeats 4000000
set_option maxRecDepth 100000
theorem equalTasks_any {w : World} {nm : List UInt8} {per : Int} {vs : List (List UInt8)} {ar : List ArrD} {k : Nat} {num : Int} {bn : List UInt8} {kids : List Tree} {vA vA' aA aA' kA kA' : Option Addr} {vc vc' ac ac' kc kc' nv na nk : Nat}
    (hnv : vs.length = nv) (hna : ar.length = na) (hnk : kids.length = nk) (rv : Row w vA (strCells vs)) (rv' : Row w vA' (strCells vs)) (ra : Row w aA (arrCells ar)) (ra' : Row w aA' (arrCells ar)) (ks : KidsC w (fun _ => True) kA kids) (ks' : KidsC w (fun _ => True) kA' kids)
    (lv : nv ≤ 65536) (la : na ≤ 65536) (hsz : (Tree.node k num bn kids).size ≤ 1000000) :
    Calls Tryz.prog 68 #[.agg #[.string ⟨nm.toArray⟩, .int .i64 per, .slice vA nv vc, .slice aA na ac, .int .u8 (k : Int), .int .i64 num, .string ⟨bn.toArray⟩, .slice kA nk kc], .agg #[.string ⟨nm.toArray⟩, .int .i64 per, .slice vA' nv vc', .slice aA' na ac', .int .u8 (k : Int), .int .i64 num, .string ⟨bn.toArray⟩, .slice kA' nk kc']] w fun e w' => e = .returned (.bool true) ∧ Below w.heap.size w w' := by
  have hb : Below w.heap.size w ((w.alloc (.cells #[.string ⟨nm.toArray⟩, .int .i64 per, .slice vA nv vc, .slice aA na ac, .int .u8 (k : Int), .int .i64 num, .string ⟨bn.toArray⟩, .slice kA nk kc] 58)).alloc (.cells #[.string ⟨nm.toArray⟩, .int .i64 per, .slice vA' nv vc', .slice aA' na ac', .int .u8 (k : Int), .int .i64 num, .string ⟨bn.toArray⟩, .slice kA' nk kc'] 58)) := ((Below.refl _ _).alloc (Nat.le_refl _) _).alloc (by simp) _
  have HB := Lib.hid hb
  have HS := Lib.hid (equal_strings (c := vc) (c' := vc') hnv (rv.below hb) (rv'.below hb) (by omega))
  have HNA := Lib.hid hna
  have HNK := Lib.hid hnk
  have HRA := Lib.hid ra
  have HRA' := Lib.hid ra'
  have HKS := Lib.hid ks
  have HKS' := Lib.hid ks'
  have HSZ := Lib.hid hsz
  clear hb hnv hna hnk rv rv' ra ra' ks ks' hsz
  go_enter Tryz.func68, Tryz.ntmps68
  go_wp2_with fail
  refine HS.out.mono ?_
  rintro e w1 ⟨rfl, hb1⟩
  have k1 : Blk w1 w.heap.size 58 #[.string ⟨nm.toArray⟩, .int .i64 per, .slice vA nv vc, .slice aA na ac, .int .u8 (k : Int), .int .i64 num, .string ⟨bn.toArray⟩, .slice kA nk kc] := (hb1.block _ (by simp; omega)).trans ((Blk.new _ _ _).alloc _)
  have k2 : Blk w1 (w.heap.size + 1) 58 #[.string ⟨nm.toArray⟩, .int .i64 per, .slice vA' nv vc', .slice aA' na ac', .int .u8 (k : Int), .int .i64 num, .string ⟨bn.toArray⟩, .slice kA' nk kc'] := (hb1.block _ (by simp)).trans (blk_second _ _ _ _ _)
  have HB1 := Lib.hid (HB.out.trans (hb1.mono HB.out.size))
  have K1 := Lib.hid k1
  have K2 := Lib.hid k2
  have l1 := k1.lt
  have l2 := k2.lt
  obtain ⟨x0, x1, x2, x3, x4, x5, x6, x7⟩ := k1.eight
  obtain ⟨y0, y1, y2, y3, y4, y5, y6, y7⟩ := k2.eight
  have HAR := Lib.hid (equal_arrays (c := ac) (c' := ac') HNA.out (HRA.out.below HB1.out) (HRA'.out.below HB1.out) (by omega))
  clear k1 k2 hb1 HS
  go_wp2_with fail
  refine HAR.out.mono ?_
  rintro e w2 ⟨rfl, hb2⟩
  have k1 := (hb2.block _ K1.out.lt).trans K1.out
  have k2 := (hb2.block _ K2.out.lt).trans K2.out
  have HB2 := Lib.hid (HB1.out.trans (hb2.mono HB1.out.size))
  clear x0 x1 x2 x3 x4 x5 x6 x7 y0 y1 y2 y3 y4 y5 y6 y7 l1 l2
  have l1 := Blk.lt k1
  have l2 := Blk.lt k2
  obtain ⟨x0, x1, x2, x3, x4, x5, x6, x7⟩ := Blk.eight k1
  obtain ⟨y0, y1, y2, y3, y4, y5, y6, y7⟩ := Blk.eight k2
  have hn1 : NodeV w2 (fun _ => True) (.agg #[.int .u8 (k : Int), .int .i64 num, .string ⟨bn.toArray⟩, .slice kA nk kc]) (.node k num bn kids) := ⟨k, num, bn, kA, kc, kids, by rw [HNK.out], rfl, HKS.out.keep ⟨HB2.out.size, fun g _ hg => HB2.out.block g hg⟩⟩
  have hn2 : NodeV w2 (fun _ => True) (.agg #[.int .u8 (k : Int), .int .i64 num, .string ⟨bn.toArray⟩, .slice kA' nk kc']) (.node k num bn kids) := ⟨k, num, bn, kA', kc', kids, by rw [HNK.out], rfl, HKS'.out.keep ⟨HB2.out.size, fun g _ hg => HB2.out.block g hg⟩⟩
  have HE := Lib.hid (equal_any hn1 hn2 HSZ.out)
  clear k1 k2 hb2 HAR hn1 hn2
  go_wp2_with fail
  refine HE.out.mono ?_
  rintro e w3 ⟨rfl, hb3⟩
  rw [PP.eqT_refl]
  have HB3 := Lib.hid (HB2.out.trans (hb3.mono HB2.out.size))
  clear x0 x1 x2 x3 x4 x5 x6 x7 y0 y1 y2 y3 y4 y5 y6 y7 hb3
  go_wp2_with fail
  go_ret
  exact ⟨rfl, HB3.out⟩
theorem equalFunc_tasks {ts : List TaskD} {A A' : Option Addr} {c c' : Nat} {w : World} {n : Nat} (hN : ts.length = n) (h : TasksR w A ts) (h' : TasksR w A' ts) (hl : n ≤ 65536) (hsz : ∀ t ∈ ts, t.body.size ≤ 1000000) :
    Calls Tryz.prog 67 #[.slice A n c, .slice A' n c', .func (.func 68) #[] #[]] w fun e w' => e = .returned (.bool true) ∧ Below w.heap.size w w' := by
  have hcf := fun (u v : Value) (W : World) => cf_equalTasks u v W
  have hnot : ∀ (x : Bool) (w : World), (Op.unary .not (.bool x)).run Tryz.prog w = .ok (.bool (!x)) w := fun _ _ => rfl
  have HN := Lib.hid hN
  have HR := Lib.hid h
  have HR' := Lib.hid h'
  have HSZ := Lib.hid hsz
  clear hN h h' hsz
  go_enter Tryz.func67, Tryz.ntmps67
  go_wp2_with fail
  go_loopw [17] (fun i wr => ∃ j : Nat, j ≤ n ∧ i = .int .i64 (j : Int) ∧ Below w.heap.size w wr) (fun i _ => n - (intOf i).toNat)
  case atStart => exact ⟨0, Nat.zero_le _, rfl, Below.refl _ _⟩
  case round =>
    obtain ⟨j, hj, rfl, hbr⟩ := hrel
    by_cases hlt : j < n
    · have hne : ts ≠ [] := by intro e; have := HN.out; rw [e] at this; simp at this; omega
      obtain ⟨b, o, rfl, hb, hc⟩ := HR.out hne
      obtain ⟨b', o', rfl, hb', hc'⟩ := HR'.out hne
      obtain ⟨t, ht⟩ : ∃ t, ts[j]? = some t := ⟨_, List.getElem?_eq_getElem (by rw [HN.out]; exact hlt)⟩
      obtain ⟨vA, vc, aA, ac, k, num, nm, kids, kA, kc, T0⟩ := hc j t ht
      obtain ⟨vA', vc', aA', ac', k', num', nm', kids', kA', kc', T0'⟩ := hc' j t ht
      have hbd := T0'.bd
      rw [T0.bd] at hbd
      injection hbd with e1 e2 e3 e4
      subst e1 e2 e3 e4
      have hsz := HSZ.out t (List.mem_of_getElem? ht)
      rw [T0.bd] at hsz
      have T := T0.below hbr hb
      have T' := T0'.below hbr hb'
      have l1 := Nat.lt_of_lt_of_le hb hbr.size
      have l2 := Nat.lt_of_lt_of_le hb' hbr.size
      have hsr := hbr.size
      have hb2 : Below wr.heap.size wr ((wr.alloc (.cells #[.string ⟨t.name.toArray⟩, .int .i64 t.period, .slice vA t.vars.length vc, .slice aA t.arrays.length ac, .int .u8 (k : Int), .int .i64 num, .string ⟨nm.toArray⟩, .slice kA kids.length kc] 58)).alloc (.cells #[.string ⟨t.name.toArray⟩, .int .i64 t.period, .slice vA' t.vars.length vc', .slice aA' t.arrays.length ac', .int .u8 (k : Int), .int .i64 num, .string ⟨nm.toArray⟩, .slice kA' kids.length kc'] 58)) := ((Below.refl _ _).alloc (Nat.le_refl _) _).alloc (by simp) _
      have HB2 := Lib.hid (hbr.trans (hb2.mono hsr))
      have HC := Lib.hid (equalTasks_any (nm := t.name) (per := t.period) (vc := vc) (vc' := vc') (ac := ac) (ac' := ac') (kc := kc) (kc' := kc') rfl rfl rfl (T.rv.below hb2) (T'.rv.below hb2) (T.ra.below hb2) (T'.ra.below hb2) (T.ks.keep ⟨hb2.size, fun g _ hg => hb2.block g hg⟩) (T'.ks.keep ⟨hb2.size, fun g _ hg => hb2.block g hg⟩) T.lv T.la hsz)
      have lv := T.lv
      have la := T.la
      have x0 := T.c0
      have x1 := T.c1
      have x2 := T.c2
      have x3 := T.c3
      have x4 := T.c4
      have x5 := T.c5
      have x6 := T.c6
      have x7 := T.c7
      have y0 := T'.c0
      have y1 := T'.c1
      have y2 := T'.c2
      have y3 := T'.c3
      have y4 := T'.c4
      have y5 := T'.c5
      have y6 := T'.c6
      have y7 := T'.c7
      have p1 : (0 : Int) ≤ (j : Int) := by omega
      have p2 : (j : Int) < (n : Int) := by omega
      clear hc hc' ht hne T T' T0 T0' hsz hb2 hb hb' HR HR' HSZ
      go_wp2_with fail
      refine HC.out.mono ?_
      rintro e w3 ⟨rfl, hb3⟩
      have HB3 := Lib.hid (HB2.out.trans (hb3.mono HB2.out.size))
      clear hb3 x0 x1 x2 x3 x4 x5 x6 x7 y0 y1 y2 y3 y4 y5 y6 y7 HC
      go_wp2_with fail
      go_roundw
      case rel => exact ⟨j + 1, by omega, by go_num, HB3.out⟩
      case measure => simp [intOf]; omega
    · go_wp2_with fail
      go_ret
      exact ⟨rfl, hbr⟩
theorem same_any {p : ProgD} {A T A' T' : Option Addr} {c d c' d' na nt : Nat} {w : World} (hna : p.shared.length = na) (hnt : p.tasks.length = nt) (h : ProgR w A T p) (h' : ProgR w A' T' p) (hsz : ∀ t ∈ p.tasks, t.body.size ≤ 1000000) :
    Calls Tryz.prog 27 #[.agg #[.slice A na c, .slice T nt d], .agg #[.slice A' na c', .slice T' nt d']] w fun e w' => e = .returned (.bool true) ∧ Below w.heap.size w w' := by
  have hb : Below w.heap.size w ((w.alloc (.cells #[.slice A na c, .slice T nt d] 26)).alloc (.cells #[.slice A' na c', .slice T' nt d'] 26)) := ((Below.refl _ _).alloc (Nat.le_refl _) _).alloc (by simp) _
  have HB := Lib.hid hb
  have HE := Lib.hid (equal_arrays (c := c) (c' := c') hna (h.ra.below hb) (h'.ra.below hb) (by have := h.la; omega))
  have HR := Lib.hid h
  have HR' := Lib.hid h'
  have HSZ := Lib.hid hsz
  have HNT := Lib.hid hnt
  clear hb h h' hsz hna hnt
  go_enter Tryz.func27, Tryz.ntmps27
  go_wp2_with fail
  refine HE.out.mono ?_
  rintro e w1 ⟨rfl, hb1⟩
  have k1 : Blk w1 w.heap.size 26 #[.slice A na c, .slice T nt d] := (hb1.block _ (by simp; omega)).trans ((Blk.new _ _ _).alloc _)
  have k2 : Blk w1 (w.heap.size + 1) 26 #[.slice A' na c', .slice T' nt d'] := (hb1.block _ (by simp)).trans (blk_second _ _ _ _ _)
  have HB1 := Lib.hid (HB.out.trans (hb1.mono HB.out.size))
  have l1 := k1.lt
  have l2 := k2.lt
  have x1 := k1.two
  have x2 := k2.two
  have HF := Lib.hid (equalFunc_tasks (c := d) (c' := d') HNT.out (HR.out.rt.below HB1.out) (HR'.out.rt.below HB1.out) (by rw [← HNT.out]; exact HR.out.lt) HSZ.out)
  clear k1 k2 hb1 HE
  go_wp2_with fail
  refine HF.out.mono ?_
  rintro e w2 ⟨rfl, hb2⟩
  have HB2 := Lib.hid (HB1.out.trans (hb2.mono HB1.out.size))
  clear hb2 x1 x2
  go_wp2_with fail
  go_ret
  exact ⟨rfl, HB2.out⟩
end
end Go.Proofs.YtfakdbnfpdalhaaGreatDoor
