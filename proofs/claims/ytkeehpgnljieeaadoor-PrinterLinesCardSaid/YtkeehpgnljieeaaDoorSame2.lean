/- The contract of ast.Same at two programs with the same contents. -/
import Derived.Test.YtkeehpgnljieeaaDoorSame
namespace Go.Proofs.YtkeehpgnljieeaaDoor
open Go.RowKit Go.Maps
open PP (Tree ArrD TaskD ProgD)
theorem RowV.row {base : Nat} {e : TypeId} {size : Nat} {n : Nat} {A : Option Addr} {c : Nat} {xs : List Value} {bs : List OwnB} (h : RowV base e size (.slice A n c) n xs bs) {W : World} (hb : ∀ x ∈ bs, Blk W x.1 x.2.1 x.2.2) : Row W A xs := by
  intro hne
  rcases h.2 with ⟨_, h2, _⟩ | ⟨g, cap, cur, h1, h2, h3, h4, h5, h6, h7⟩
  · exact absurd (by have := h.1; rw [h2] at this; simpa using this) hne
  · injection h1 with h1 _ _
    subst h1 h7
    have hk := hb (g, e, cur) (by simp)
    refine ⟨g, 0, rfl, hk.lt, fun i v hi => ?_⟩
    rw [Nat.zero_add]
    have := hk.cell i
    rw [this, ← Array.getElem?_toList]
    rw [← h6, List.getElem?_take] at hi
    split at hi
    · exact hi
    · cases hi
/-- A task at cells, as it is read. -/
structure TaskAt (w : World) (b o : Nat) (t : TaskD) (vA : Option Addr) (vc : Nat) (aA : Option Addr) (ac : Nat) (k : Nat) (num : Int) (nm : List UInt8) (kids : List Tree) (kA : Option Addr) (kc : Nat) : Prop where
  c0 : w.cell? ⟨b, o, none⟩ = some (.string ⟨t.name.toArray⟩)
  c1 : w.cell? ⟨b, o + 1, none⟩ = some (.int .i64 t.period)
  c2 : w.cell? ⟨b, o + 2, none⟩ = some (.slice vA t.vars.length vc)
  c3 : w.cell? ⟨b, o + 3, none⟩ = some (.slice aA t.arrays.length ac)
  c4 : w.cell? ⟨b, o + 4, none⟩ = some (.int .u8 (k : Int))
  c5 : w.cell? ⟨b, o + 5, none⟩ = some (.int .i64 num)
  c6 : w.cell? ⟨b, o + 6, none⟩ = some (.string ⟨nm.toArray⟩)
  c7 : w.cell? ⟨b, o + 7, none⟩ = some (.slice kA kids.length kc)
  bd : t.body = .node k num nm kids
  rv : Row w vA (strCells t.vars)
  ra : Row w aA (arrCells t.arrays)
  ks : KidsC w (fun _ => True) kA kids
  lv : t.vars.length ≤ 65536
  la : t.arrays.length ≤ 65536
/-- A row of tasks, as it is read. -/
def TasksR (w : World) (A : Option Addr) (ts : List TaskD) : Prop := ts ≠ [] → ∃ b o, A = some ⟨b, o, none⟩ ∧ b < w.heap.size ∧ ∀ i t, ts[i]? = some t → ∃ vA vc aA ac k num nm kids kA kc, TaskAt w b (o + i * 8) t vA vc aA ac k num nm kids kA kc
theorem TaskAt.below {w w' : World} {b o : Nat} {t : TaskD} {vA : Option Addr} {vc : Nat} {aA : Option Addr} {ac : Nat} {k : Nat} {num : Int} {nm : List UInt8} {kids : List Tree} {kA : Option Addr} {kc : Nat}
    (h : TaskAt w b o t vA vc aA ac k num nm kids kA kc) (hb : Below w.heap.size w w') (hlt : b < w.heap.size) : TaskAt w' b o t vA vc aA ac k num nm kids kA kc :=
  ⟨(hb.cell (p := ⟨b, o, none⟩) hlt).trans h.c0, (hb.cell (p := ⟨b, o + 1, none⟩) hlt).trans h.c1, (hb.cell (p := ⟨b, o + 2, none⟩) hlt).trans h.c2, (hb.cell (p := ⟨b, o + 3, none⟩) hlt).trans h.c3, (hb.cell (p := ⟨b, o + 4, none⟩) hlt).trans h.c4, (hb.cell (p := ⟨b, o + 5, none⟩) hlt).trans h.c5, (hb.cell (p := ⟨b, o + 6, none⟩) hlt).trans h.c6, (hb.cell (p := ⟨b, o + 7, none⟩) hlt).trans h.c7,
    h.bd, h.rv.below hb, h.ra.below hb, h.ks.keep ⟨hb.size, fun g _ hg => hb.block g hg⟩, h.lv, h.la⟩
theorem TasksR.below {w w' : World} {A : Option Addr} {ts : List TaskD} (h : TasksR w A ts) (hb : Below w.heap.size w w') : TasksR w' A ts := fun hn => by
  obtain ⟨b, o, rfl, hlt, hc⟩ := h hn
  refine ⟨b, o, rfl, Nat.lt_of_lt_of_le hlt hb.size, fun i t hi => ?_⟩
  obtain ⟨vA, vc, aA, ac, k, num, nm, kids, kA, kc, ht⟩ := hc i t hi
  exact ⟨vA, vc, aA, ac, k, num, nm, kids, kA, kc, ht.below hb hlt⟩
theorem tasks_at : ∀ {els : List TaskEl} {i : Nat} {x : TaskEl}, els[i]? = some x → ∀ j v, x.cells[j]? = some v → (tasksCells els)[i * 8 + j]? = some v
  | [], i, x, h, _, _, _ => by simp at h
  | y :: els, 0, x, h, j, v, hv => by
    simp at h; subst h
    have hj : j < y.cells.length := (List.getElem?_eq_some_iff.1 hv).1
    rw [show tasksCells (y :: els) = y.cells ++ tasksCells els from by simp [tasksCells], Nat.zero_mul, Nat.zero_add, List.getElem?_append_left hj]
    exact hv
  | y :: els, i + 1, x, h, j, v, hv => by
    have hl : y.cells.length = 8 := rfl
    rw [show tasksCells (y :: els) = y.cells ++ tasksCells els from by simp [tasksCells], List.getElem?_append_right (by rw [hl]; omega), hl, show (i + 1) * 8 + j - 8 = i * 8 + j from by omega]
    exact tasks_at (by simpa using h) j v hv
/-- A program, as it is read. -/
structure ProgR (w : World) (A : Option Addr) (T : Option Addr) (p : ProgD) : Prop where
  ra : Row w A (arrCells p.shared)
  rt : TasksR w T p.tasks
  la : p.shared.length ≤ 65536
  lt : p.tasks.length ≤ 65536
theorem ProgR.below {w w' : World} {A T : Option Addr} {p : ProgD} (h : ProgR w A T p) (hb : Below w.heap.size w w') : ProgR w' A T p := ⟨h.ra.below hb, h.rt.below hb, h.la, h.lt⟩
theorem Blk.eight {w : World} {g : Nat} {t : TypeId} {a0 a1 a2 a3 a4 a5 a6 a7 : Value} (h : Blk w g t #[a0, a1, a2, a3, a4, a5, a6, a7]) : w.cell? ⟨g, 0, none⟩ = some a0 ∧ w.cell? ⟨g, 1, none⟩ = some a1 ∧ w.cell? ⟨g, 2, none⟩ = some a2 ∧ w.cell? ⟨g, 3, none⟩ = some a3 ∧ w.cell? ⟨g, 4, none⟩ = some a4 ∧ w.cell? ⟨g, 5, none⟩ = some a5 ∧ w.cell? ⟨g, 6, none⟩ = some a6 ∧ w.cell? ⟨g, 7, none⟩ = some a7 :=
  ⟨h.cell 0, h.cell 1, h.cell 2, h.cell 3, h.cell 4, h.cell 5, h.cell 6, h.cell 7⟩
section
set_option maxHeartbeats 4000000
set_option maxRecDepth 100000
end
end Go.Proofs.YtkeehpgnljieeaaDoor
