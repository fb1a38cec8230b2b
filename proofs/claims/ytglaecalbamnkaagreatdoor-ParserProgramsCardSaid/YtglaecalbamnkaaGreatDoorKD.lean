/- Merged from ParK, ParL, ParM, ParN, ParO, Meas, ParP, ParQ (wip/pack.py). -/
import Derived.Test.YtglaecalbamnkaaGreatDoorKC
import Derived.Test.YtglaecalbamnkaaGreatDoorKA
import Derived.LoopTactic
/- The contract of the parser's transfer (NOT FINISHED). -/
namespace Go.Proofs.YtglaecalbamnkaaGreatDoor
open Go.RowKit Go.Maps
open PP (Tree)

section
set_option maxHeartbeats 1000000
set_option maxRecDepth 100000
attribute [local go_sem ↓] Go.wp_at_zero Go.wp_at_succ
variable {b : Nat} {X : Loc} {E : PP.Env} {σ : PP.St}
theorem transfer_any (kind : Nat) (w : World) (Z : Nat → Prop) (hZ : ¬ Z b) (hg : Gx w b X) (h : PS w b X E σ) (k : Nat) (num : Int) (nm : List UInt8) (A : Option Addr) (c : Nat) (kids : List Tree) (hk : KidsC w Z A kids) :
    Calls Tryz.prog 87 #[.pointer (some ⟨b, 0, none⟩), .int .u8 (kind : Int), .agg #[.int .u8 (k : Int), .int .i64 num, .string ⟨nm.toArray⟩, .slice A kids.length c]] w fun r w' =>
      ∃ v, r = .returned v ∧ NodeV w' (fun g => Z g ∨ w.heap.size ≤ g) v (PP.transfer E kind (.node k num nm kids) σ).2 ∧ PS w' b X E (PP.transfer E kind (.node k num nm kids) σ).1 ∧ Fr b w w' := by
  have I0 := ((Inv.start h hg hZ).addKs (hk.weak (fun g hg _ => ⟨.inl hg, by simp⟩)))
  have I1 := (I0.alloc #[.int .u8 (k : Int), .int .i64 num, .string ⟨nm.toArray⟩, .slice A kids.length c] 36 rfl).alloc #[.int .u8 0, .int .i64 0, .string ⟨#[]⟩, .slice none 0 0] 36 (n := w.heap.size + 1) (by simp)
  have HI1 := Lib.hid I1
  have hbl := h.lt
  generalize hT : PP.transfer E kind (.node k num nm kids) σ = T at *
  have HT := Lib.hid hT
  clear hT I0 I1 h hk hg
  go_enter Tryz.func87, Tryz.ntmps87
  go_wp2_with fail
  refine (require_any ⟨#[44]⟩ _ HI1.out.ps).mono ?_
  rintro e w2 ⟨rfl, h2, hf2⟩
  have I2 := HI1.out.call h2 hf2
  have HI2 := Lib.hid I2
  clear h2 hf2 HI1
  obtain ⟨s0, d0, d1, d2, d3⟩ := I2.b1.four
  clear I2
  go_wp2_with fail
  have hz1 : (0 : Int) ≤ 0 := by omega
  have hz2 : (0 : Int) ≤ 7 := by omega
  have hz3 : (7 : Int) ≤ 2147483647 := by omega
  have HC1 := Lib.hid (HI2.out.kids1 (k := k) (num := num) (nm := nm) (A := A) (c := c) (kids := kids) (by simp) rfl)
  have HC2 := Lib.hid (HI2.out.alloc #[.int .u8 0, .int .i64 0, .string ⟨#[]⟩, .slice none 0 0] 36 rfl)
  have HC3 := Lib.hid (HC1.out.alloc #[.int .u8 0, .int .i64 0, .string ⟨#[]⟩, .slice none 0 0] 36 (n := w2.heap.size + 1) (by simp))
  have HC4 := Lib.hid (HC2.out.kids1 (k := k) (num := num) (nm := nm) (A := A) (c := c) (kids := kids) (by simp) (n := w2.heap.size + 1) (by simp))
  go_region_held3 (fun W => W.cell? ⟨w.heap.size, 0, none⟩ = some (.int .u8 (k : Int)) ∧ W.cell? ⟨w.heap.size, 1, none⟩ = some (.int .i64 num) ∧ W.cell? ⟨w.heap.size, 2, none⟩ = some (.string ⟨nm.toArray⟩) ∧ W.cell? ⟨w.heap.size, 3, none⟩ = some (.slice A kids.length c)) 
   (with_reducible first | exact HI2.out.b1.four.1 | exact HI2.out.drew.b1.four.1 | exact HC1.out.b1.four.1 | exact HC1.out.drew.b1.four.1 | exact HC2.out.b2.four.1 | exact HC2.out.drew.b2.four.1 | exact HC3.out.b2.four.1 | exact HC3.out.drew.b2.four.1 | exact HC4.out.b2.four.1 | exact HC4.out.drew.b2.four.1 | exact I3.b1.four.1 | exact I3.drew.b1.four.1 | exact I3.b2.four.1 | exact I3.drew.b2.four.1 | exact (I3.more _).b1.four.1 | exact (I3.more _).drew.b1.four.1 | exact (I3.more _).b2.four.1 | exact (I3.more _).drew.b2.four.1 | exact ((I3.more _).more _).b1.four.1 | exact ((I3.more _).more _).drew.b1.four.1 | exact (I3.st0 _ _ _ _).b2.four.1 | exact (I3.st0 _ _ _ _).drew.b2.four.1 | exact ((I3.st0 _ _ _ _).more _).b2.four.1 | exact ((I3.st0 _ _ _ _).more _).drew.b2.four.1)
   (first | (go_at_call 40; (first | (with_reducible refine (numP_inv 0 7 hz1 hz2 hz3 HI2.out).mono ?_) | (with_reducible refine (numP_inv 0 7 hz1 hz2 hz3 HI2.out.drew).mono ?_) | (with_reducible refine (numP_inv 0 7 hz1 hz2 hz3 HC1.out).mono ?_) | (with_reducible refine (numP_inv 0 7 hz1 hz2 hz3 HC1.out.drew).mono ?_) | (with_reducible refine (numP_inv 0 7 hz1 hz2 hz3 HC2.out).mono ?_) | (with_reducible refine (numP_inv 0 7 hz1 hz2 hz3 HC2.out.drew).mono ?_) | (with_reducible refine (numP_inv 0 7 hz1 hz2 hz3 HC3.out).mono ?_) | (with_reducible refine (numP_inv 0 7 hz1 hz2 hz3 HC3.out.drew).mono ?_) | (with_reducible refine (numP_inv 0 7 hz1 hz2 hz3 HC4.out).mono ?_) | (with_reducible refine (numP_inv 0 7 hz1 hz2 hz3 HC4.out.drew).mono ?_)); rintro e w3 ⟨rfl, I3⟩; obtain ⟨⟨x0, x1, x2, x3⟩, y0, y1, y2, y3⟩ := I3.b0.four; have hNlt := I3.b0.lt))
  all_goals
    clear HC1 HC2 HC3 HC4 HI2 s0 d0 d1 d2 d3
    go_wp2_with fail
    (first | (with_reducible refine (require_inv ⟨#[59]⟩ ((I3.kids1 (k := k) (num := num) (nm := nm) (A := A) (c := c) (kids := kids) (by simp) rfl).alloc _ _ (n := w3.heap.size + 1) (by simp))).mono ?_) | (with_reducible refine (require_inv ⟨#[59]⟩ ((I3.kids1 (k := k) (num := num) (nm := nm) (A := A) (c := c) (kids := kids) (by simp) rfl).alloc _ _ (n := w3.heap.size + 1) (by simp)).drew).mono ?_) | (with_reducible refine (require_inv ⟨#[59]⟩ ((I3.alloc _ _ rfl).kids1 (k := k) (num := num) (nm := nm) (A := A) (c := c) (kids := kids) (by simp) (n := w3.heap.size + 1) (by simp))).mono ?_) | (with_reducible refine (require_inv ⟨#[59]⟩ ((I3.alloc _ _ rfl).kids1 (k := k) (num := num) (nm := nm) (A := A) (c := c) (kids := kids) (by simp) (n := w3.heap.size + 1) (by simp)).drew).mono ?_) | (with_reducible refine (require_inv ⟨#[59]⟩ (I3.alloc _ _ rfl)).mono ?_) | (with_reducible refine (require_inv ⟨#[59]⟩ (I3.alloc _ _ rfl).drew).mono ?_) | (with_reducible refine (require_inv ⟨#[59]⟩ (I3.st0 _ _ _ _)).mono ?_) | (with_reducible refine (require_inv ⟨#[59]⟩ (I3.st0 _ _ _ _).drew).mono ?_) | (with_reducible refine (require_inv ⟨#[59]⟩ ((I3.st0 _ _ _ _).kids1 (k := k) (num := num) (nm := nm) (A := A) (c := c) (kids := kids) (by simp) (n := w3.heap.size) (by simp))).mono ?_) | (with_reducible refine (require_inv ⟨#[59]⟩ ((I3.st0 _ _ _ _).kids1 (k := k) (num := num) (nm := nm) (A := A) (c := c) (kids := kids) (by simp) (n := w3.heap.size) (by simp)).drew).mono ?_))
    rintro e w4 ⟨rfl, I4⟩
    obtain ⟨⟨n0, n1, n2, n3⟩, _, _, _, _⟩ := I4.b0.four
    obtain ⟨⟨r0, r1, r2, r3⟩, q0, q1, q2, q3⟩ := I4.b1.four
    have HQ := Lib.hid (fun v0 v1 v2 v3 => I4.st1 v0 v1 v2 v3)
    clear I3 I4 x0 x1 x2 x3 y0 y1 y2 y3
    go_wp2_with fail
    refine bodyPost_ret (node_result rfl rfl (HQ.out _ _ _ _).b1) rfl ?_
    have e1 : T = (PP.require E (PP.numP E (PP.require E σ [44]) 0 7).1 [59], .node kind (PP.numP E (PP.require E σ [44]) 0 7).2 [] [.node k num nm kids]) := HT.out.symm
    rw [e1]
    exact ⟨_, rfl, ⟨kind, _, [], _, 1, [.node k num nm kids], rfl, rfl, ((HQ.out _ _ _ _).ks (_, _) (by simp; done)).weak (fun g hg _ => hg.1)⟩, (HQ.out _ _ _ _).ps, (HQ.out _ _ _ _).fr⟩
end
end Go.Proofs.YtglaecalbamnkaaGreatDoor
/- The contract of the parser's sequence of nodes. -/
namespace Go.Proofs.YtglaecalbamnkaaGreatDoor
open Go.RowKit Go.Maps
open PP (Tree)

/-- An element of a row of nodes. -/
structure NodeE where
  k : Nat
  num : Int
  nm : List UInt8
  A : Option Addr
  c : Nat
  kids : List Tree
def NodeE.cells (x : NodeE) : List Value := [.int .u8 (x.k : Int), .int .i64 x.num, .string ⟨x.nm.toArray⟩, .slice x.A x.kids.length x.c]
def NodeE.tree (x : NodeE) : Tree := .node x.k x.num x.nm x.kids
def nodesCells (xs : List NodeE) : List Value := xs.flatMap NodeE.cells
theorem nodesCells_length (xs : List NodeE) : (nodesCells xs).length = xs.length * 4 := by
  induction xs with
  | nil => rfl
  | cons t xs ih => simp [nodesCells, NodeE.cells] at *; omega
theorem nodesCells_snoc (xs : List NodeE) (x : NodeE) : nodesCells (xs ++ [x]) = nodesCells xs ++ x.cells := by simp [nodesCells]
theorem nodesCells_at : ∀ {xs : List NodeE} {i : Nat} {x : NodeE} (_ : xs[i]? = some x), (nodesCells xs)[i * 4]? = some (.int .u8 (x.k : Int)) ∧ (nodesCells xs)[i * 4 + 1]? = some (.int .i64 x.num) ∧ (nodesCells xs)[i * 4 + 2]? = some (.string ⟨x.nm.toArray⟩) ∧ (nodesCells xs)[i * 4 + 3]? = some (.slice x.A x.kids.length x.c)
  | [], i, x, h => by simp at h
  | y :: ys, 0, x, h => by
    simp at h; subst h
    exact ⟨rfl, rfl, rfl, rfl⟩
  | y :: ys, i + 1, x, h => by
    have := nodesCells_at (xs := ys) (i := i) (x := x) (by simpa using h)
    have e : nodesCells (y :: ys) = y.cells ++ nodesCells ys := by simp [nodesCells]
    have hl : y.cells.length = 4 := rfl
    rw [e]
    refine ⟨?_, ?_, ?_, ?_⟩
    · rw [List.getElem?_append_right (by omega), show (i + 1) * 4 - y.cells.length = i * 4 from by omega]; exact this.1
    · rw [List.getElem?_append_right (by omega), show (i + 1) * 4 + 1 - y.cells.length = i * 4 + 1 from by omega]; exact this.2.1
    · rw [List.getElem?_append_right (by omega), show (i + 1) * 4 + 2 - y.cells.length = i * 4 + 2 from by omega]; exact this.2.2.1
    · rw [List.getElem?_append_right (by omega), show (i + 1) * 4 + 3 - y.cells.length = i * 4 + 3 from by omega]; exact this.2.2.2
def NodeE.zero : NodeE := ⟨0, 0, [], none, 0, []⟩
/-- A row of nodes whose trees are known is the row of those trees. -/
theorem kids_of_row {W : World} {base : Nat} {Z : Nat → Prop} {v : Value} {els : List NodeE} (h : W.ownsRow base 36 4 v els.length (nodesCells els)) (hk : ∀ x ∈ els, KidsC W Z x.A x.kids) (hz : ∀ g, v.ownBlock = some g → Z g) :
    ∃ A c, v = .slice A (els.map NodeE.tree).length c ∧ KidsC W Z A (els.map NodeE.tree) := by
  rw [List.length_map]
  by_cases hn : 0 < els.length
  · obtain ⟨g, cap, rfl, _, hg, _, hc⟩ := own_cells h hn
    refine ⟨_, _, rfl, .mk _ _ g 0 (fun i => (els.getD i .zero).k) (fun i => (els.getD i .zero).num) (fun i => (els.getD i .zero).nm) (fun i => (els.getD i .zero).A) (fun i => (els.getD i .zero).c) (fun i => (els.getD i .zero).kids) (fun _ => ⟨rfl, hz g rfl, hg⟩) (fun i hi => ?_) (fun i hi => ?_) (fun i hi => ?_)⟩
    all_goals
      rw [List.length_map] at hi
      have he : els[i]? = some (els.getD i .zero) := by rw [List.getD_eq_getElem?_getD, List.getElem?_eq_getElem hi]; rfl
    · rw [List.getElem?_map, he]; rfl
    · obtain ⟨c0, c1, c2, c3⟩ := nodesCells_at he
      rw [show 0 + i * 4 = i * 4 from by omega]
      exact ⟨hc _ _ c0, hc _ _ c1, hc _ _ c2, hc _ _ c3⟩
    · exact hk _ (List.mem_of_getElem? he)
  · obtain ⟨A, c, rfl⟩ := own_form h
    have : els = [] := by cases els with
      | nil => rfl
      | cons a l => simp at hn
    subst this
    exact ⟨A, c, rfl, KidsC.nil _ _ _⟩

theorem own_fr {b : Nat} {w wd w3 : World} {base : Nat} {e : TypeId} {size : Nat} {v : Value} {n : Nat} {xs : List Value} (h : w.ownsRow base e size v n xs) (k : Fr b wd w3) (he : wd.heap = w.heap) (hb : b < base) : w3.ownsRow base e size v n xs := by
  refine ⟨h.1, ?_⟩
  rcases h.2 with hn | ⟨g, cap, cur, rfl, hb', hgg, rest⟩
  · exact .inl hn
  · refine .inr ⟨g, cap, cur, rfl, hb', ?_, rest⟩
    have hlt := (Array.getElem?_eq_some_iff.1 hgg).1
    rw [k.block g (by rw [he]; exact hlt) (by intro e; injection e with e; omega), he]
    exact hgg
theorem Fr.grow {b : Nat} {w W W' : World} {row : Option Nat} (h : Fr b w W) (k : W.grownBy W' row) (hr : ∀ g, row = some g → w.heap.size ≤ g) : Fr b w W' :=
  ⟨k.os.trans h.os, k.tape.trans h.tape, k.output.trans h.output, Nat.le_trans h.size k.size, fun i hi hn => (k.block i (Nat.lt_of_lt_of_le hi h.size) (fun e => by have := hr i e.symm; omega)).trans (h.block i hi hn)⟩
def errOf (w : World) (b : Nat) : Nat := match w.cell? ⟨b, 5, none⟩ with
  | some v => (intOf v).toNat
  | none => 0
theorem errOf_ps {w : World} {b : Nat} {X : Loc} {E : PP.Env} {σ : PP.St} (h : PS w b X E σ) : errOf w b = σ.err := by
  unfold errOf
  rw [h.cells.2.2.2.2.2]
  simp [intOf]
/-- How much a loop over constructs has still to read. -/
def leftOf (E : PP.Env) (b : Nat) (w : World) : Nat := if errOf w b = 0 then E.ts.length - nextOf w b else 0
theorem leftOf_ps {w : World} {b : Nat} {X : Loc} {E : PP.Env} {σ : PP.St} (h : PS w b X E σ) : leftOf E b w = if σ.err = 0 then E.ts.length - σ.next else 0 := by
  unfold leftOf
  rw [errOf_ps h, nextOf_ps h]
def cntOk (σ : PP.St) (n : Nat) : Prop := n ≤ σ.next + if σ.err = 0 then 0 else 1

def SeqRel (b : Nat) (X : Loc) (E : PP.Env) (σ : PP.St) (top : Bool) (w : World) (v : Value) (wr : World) : Prop :=
  ∃ σ' els, PS wr b X E σ' ∧ Fr b w wr ∧ σ.next ≤ σ'.next ∧ cntOk σ' (els : List NodeE).length ∧ wr.ownsRow w.heap.size 36 4 v els.length (nodesCells els) ∧
    (∀ x ∈ els, KidsC wr (fun g => w.heap.size ≤ g ∧ v.ownBlock ≠ some g) x.A x.kids) ∧ ∀ n r, PP.stmts E n top σ' (els.map NodeE.tree) = some r → ∃ n', PP.stmts E n' top σ [] = some r
def SeqEnd (b : Nat) (X : Loc) (E : PP.Env) (σ : PP.St) (top : Bool) (w : World) (r : Ending) (w' : World) : Prop :=
  ∃ A c ts σ', r = .returned (.slice A (ts : List Tree).length c) ∧ KidsC w' (w.heap.size ≤ ·) A ts ∧ PS w' b X E σ' ∧ Fr b w w' ∧ (∃ n, PP.stmts E n top σ [] = some (σ', ts)) ∧ σ.next ≤ σ'.next
theorem infoNode : (Tryz.prog.info? 36).map (fun i => (i.zero, i.size, i.bytes)) = some (some (.agg #[.int .u8 0, .int .i64 0, .string ⟨#[]⟩, .slice none 0 0]), 4, 56) := by kernel_rfl
theorem seq_step {b : Nat} {X : Loc} {E : PP.Env} {σ σ' σ3 : PP.St} {top : Bool} {w wr wd w3 w4 : World} {v v4 : Value} {els : List NodeE} {x : NodeE} {o : Obj} {g m3 : Nat}
    (h0 : PS w b X E σ) (hF : Fr b w wr) (hn : σ.next ≤ σ'.next) (hc : cntOk σ' els.length) (hown : wr.ownsRow w.heap.size 36 4 v els.length (nodesCells els))
    (hk : ∀ x ∈ els, KidsC wr (fun g => w.heap.size ≤ g ∧ v.ownBlock ≠ some g) x.A x.kids) (hgo : ∀ n r, PP.stmts E n top σ' (els.map NodeE.tree) = some r → ∃ n', PP.stmts E n' top σ [] = some r)
    (hgs : PP.goes E top σ' = true) (hFd : Fr b wr wd) (hf3 : Fr b wd w3) (h3 : PS w3 b X E σ3) (hk3 : KidsC w3 (wd.heap.size ≤ ·) x.A x.kids) (hr3 : PP.statement E m3 σ' = some (σ3, x.tree))
    (hown4 : w4.ownsRow w.heap.size 36 4 v4 (els.length + 1) (nodesCells els ++ x.cells)) (hg4 : (w3.alloc o).grownBy w4 v.ownBlock) (hat : v.ownBlock = some g ∨ g = w3.heap.size + 1) (hv4 : v4.ownBlock = some g) :
    (PS w4 b X E σ3 ∧ (σ3.err ≠ 0 ∨ σ'.next < σ3.next) ∧ σ'.err = 0 ∧ σ'.next < E.ts.length) ∧ SeqRel b X E σ top w v4 w4 := by
  have hbl := h0.lt
  obtain ⟨hle, hadv⟩ := (PP.stmt_le E m3).2.2.2 _ _ hr3
  have hmore : σ'.err = 0 ∧ σ'.next < E.ts.length := by
    unfold PP.goes at hgs
    simp only [Bool.and_eq_true] at hgs
    exact PP.more_err E hgs.1
  have hvr : ∀ k, v.ownBlock = some k → w.heap.size ≤ k ∧ k < wr.heap.size := fun k hk => hown.lt k hk
  have hs1 : wr.heap.size ≤ wd.heap.size := hFd.size
  have hs2 := hf3.size
  have hF3 : Fr b w w3 := (hF.trans hFd).trans hf3
  have hFa := hF3.alloc o
  have hF4 : Fr b w w4 := hFa.grow hg4 (fun k hk => (hvr k hk).1)
  have hblk : w4.heap[b]? = (w3.alloc o).heap[b]? := hg4.block b (by have := h3.lt; simp; omega) (fun e => by have := (hvr b e.symm).1; omega)
  have hp4 : PS w4 b X E σ3 := h0.fr hF4 (hblk.trans (h3.alloc o).blk) h3.next
  refine ⟨⟨hp4, hadv, hmore⟩, σ3, els ++ [x], hp4, hF4, Nat.le_trans hn hle.1, ?_, ?_, ?_, ?_⟩
  · unfold cntOk at hc ⊢
    rw [if_pos hmore.1] at hc
    have h1 := hle.1
    simp only [List.length_append, List.length_cons, List.length_nil] at h1 ⊢
    rcases hadv with h2 | h2
    · rw [if_neg h2]; omega
    · split
      · simp only at h2; omega
      · omega
  · rw [nodesCells_snoc, List.length_append]; exact hown4
  · have kp : ∀ Z : Nat → Prop, (∀ k, Z k → v.ownBlock ≠ some k) → Keep Z (w3.alloc o) w4 := fun Z hz => ⟨hg4.size, fun k hk hlt => hg4.block k hlt (fun e => hz k hk e.symm)⟩
    intro y hy
    rcases List.mem_append.1 hy with hy | hy
    · have h1 := (hk y hy).weak (Z' := fun k => w.heap.size ≤ k ∧ v.ownBlock ≠ some k ∧ k ≠ g) (fun k hk hlt => ⟨hk.1, hk.2, by
        rintro rfl
        rcases hat with h | h
        · exact hk.2 h
        · omega⟩)
      have h2 := h1.keep (((Keep.refl _ _).fr hFd (by intro hz; have := hz.1; omega)).fr hf3 (by intro hz; have := hz.1; omega))
      have h3 := h2.keep (((Keep.refl _ _).alloc o).trans (kp _ (fun k hk => hk.2.1)))
      refine h3.weak (fun k hk _ => ⟨hk.1, ?_⟩)
      rw [hv4]; intro e; injection e with e; exact hk.2.2 e.symm
    · simp only [List.mem_cons, List.not_mem_nil, or_false] at hy
      subst hy
      have h1 := hk3.weak (Z' := fun k => w.heap.size ≤ k ∧ v.ownBlock ≠ some k ∧ k ≠ g) (fun k hk hlt => by
        have hk' : wd.heap.size ≤ k := hk
        refine ⟨by have := hF.size; omega, fun e => ?_, ?_⟩
        · have := (hvr k e).2; omega
        · rintro rfl
          rcases hat with h | h
          · have := (hvr k h).2; omega
          · omega)
      have h3 := h1.keep (((Keep.refl _ _).alloc o).trans (kp _ (fun k hk => hk.2.1)))
      refine h3.weak (fun k hk _ => ⟨hk.1, ?_⟩)
      rw [hv4]; intro e; injection e with e; exact hk.2.2 e.symm
  · intro n r hr
    rw [List.map_append] at hr
    refine hgo (max m3 n + 1) r ?_
    rw [PP.stmts, hgs, PP.statement_le E (Nat.le_max_left m3 n) hr3]
    exact PP.stmts_le E (Nat.le_max_right m3 n) hr

section
set_option maxHeartbeats 1000000
set_option maxRecDepth 100000
attribute [local go_sem ↓] Go.wp_at_zero Go.wp_at_succ
variable {b : Nat} {X : Loc} {E : PP.Env} {σ : PP.St}
theorem sequence_any (top : Bool) (w : World) (hg : Gx w b X) (h : PS w b X E σ) (gf of_ : FuncId) (gfirst gcap ofirst ocap : Array Value)
    (hcg : ∀ W, Sem.run Tryz.prog (callFunc gf (gfirst ++ gcap)) W = .ok (Next.enter gf (gfirst ++ gcap)) W)
    (hco : ∀ W, Sem.run Tryz.prog (callFunc of_ (ofirst ++ ocap)) W = .ok (Next.enter of_ (ofirst ++ ocap)) W)
    (HG : ∀ σ' W, PS W b X E σ' → Fr b w W → Calls Tryz.prog gf (gfirst ++ gcap) W fun e w' => e = .returned (.bool (PP.goes E top σ')) ∧ ∃ n, w' = W.drewN n)
    (HO : ∀ σ' W, Gx W b X → PS W b X E σ' → σ.next ≤ σ'.next → PP.goes E top σ' = true → Calls Tryz.prog of_ (ofirst ++ ocap) W (TreeEnd b X E σ' W fun σ'' t => ∃ n, PP.statement E n σ' = some (σ'', t))) :
    Calls Tryz.prog 59 #[.pointer (some ⟨b, 0, none⟩), .func (.func gf) gfirst gcap, .func (.func of_) ofirst ocap] w (SeqEnd b X E σ top w) := by
  have H0 := Lib.hid h
  have HGX := Lib.hid hg
  have HHG := Lib.hid HG
  have HHO := Lib.hid HO
  have hlen := h.len
  have hnx := h.next
  have hbl := h.lt
  obtain ⟨i0, hi, hz0, hz1, hz2⟩ := info_parts infoNode
  have HI := Lib.hid hi
  have HZ0 := Lib.hid hz0
  have HZ1 := Lib.hid hz1
  have HZ2 := Lib.hid hz2
  clear hi hz0 hz1 hz2 h hg HG HO
  go_enter Tryz.func59, Tryz.ntmps59
  go_wp2_with fail
  go_loopw [7] (fun v wr => SeqRel b X E σ top w v wr) (fun _ wr => leftOf E b wr)
  case atStart => exact ⟨σ, [], H0.out, Fr.refl b w, Nat.le_refl _, Nat.zero_le _, World.ownsRow_nil _ _ _ _, fun _ hx => by simp at hx, fun n r hr => ⟨n, hr⟩⟩
  case round =>
    obtain ⟨σ', els, hp, hF, hn, hc, hown, hk, hgo⟩ := hrel
    have HM := Lib.hid (leftOf_ps hp)
    have HP := Lib.hid hp
    have HF := Lib.hid hF
    have HC := Lib.hid hc
    have HOW := Lib.hid hown
    have HK := Lib.hid hk
    have HGO := Lib.hid hgo
    have hgc := HHG.out σ' wr hp hF
    have hpn := hp.next
    clear hp hF hc hown hk hgo
    cases hgs : PP.goes E top σ' with
    | false =>
      rw [hgs] at hgc
      have HGC := Lib.hid hgc
      have HGS := Lib.hid hgs
      clear hgc hgs
      go_wp2_with fail
      refine HGC.out.mono ?_
      rintro e w1 ⟨rfl, n1, rfl⟩
      go_wp2_with fail
      go_ret
      obtain ⟨A, c, hv, hkk⟩ := kids_of_row (W := wr.drewN n1) (HOW.out.kept (row := none) ⟨rfl, rfl, rfl, Nat.le_refl _, fun _ _ _ => rfl⟩ (by cases hv : Value.ownBlock _ <;> simp)) (fun x hx => ((HK.out x hx).weak (Z' := (w.heap.size ≤ ·)) (fun g hg _ => hg.1)).keep ((Keep.refl _ _).drewN n1)) (fun g hg => (HOW.out.lt g hg).1)
      obtain ⟨n', hn'⟩ := HGO.out 1 (σ', els.map NodeE.tree) (by rw [PP.stmts, HGS.out]; rfl)
      rw [hv]
      exact ⟨A, c, _, σ', rfl, hkk, HP.out.drewN n1, HF.out.drewN n1, ⟨n', hn'⟩, hn⟩
    | true =>
      rw [hgs] at hgc
      have hone := fun n1 => HHO.out σ' (wr.drewN n1) (HGX.out.fr (HF.out.drewN n1)) (HP.out.drewN n1) hn hgs
      have HGC := Lib.hid hgc
      have HGS := Lib.hid hgs
      have HONE := Lib.hid hone
      clear hgc hgs hone
      go_wp2_with fail
      refine HGC.out.mono ?_
      rintro e w1 ⟨rfl, n1, rfl⟩
      go_wp2_with fail
      refine (HONE.out n1).mono ?_
      rintro e w3 ⟨v3, t3, σ3, rfl, ⟨k3, num3, nm3, A3, c3, kids3, rfl, rfl, hk3⟩, h3, hf3, ⟨m3, hr3⟩, hn3⟩
      have HK3 := Lib.hid hk3
      have HH3 := Lib.hid h3
      have HF3 := Lib.hid hf3
      have HR3 := Lib.hid hr3
      have HOW3 := Lib.hid ((own_fr HOW.out hf3 rfl hbl).alloc (.cells #[.int .u8 (k3 : Int), .int .i64 num3, .string ⟨nm3.toArray⟩, .slice A3 kids3.length c3] 36))
      have hle : els.length ≤ 65537 := by
        have := HC.out
        unfold cntOk at this
        split at this <;> omega
      have hsz3 := HF.out.size
      have hsz4 : wr.heap.size ≤ w3.heap.size := hf3.size
      clear hk3 h3 hf3 hr3
      go_wp2_with (at_builtin; refine wpList_append_lies _ rfl _ _ 34 rfl w.heap.size 36 i0 (.agg #[.int .u8 0, .int .i64 0, .string ⟨#[]⟩, .slice none 0 0]) 4 56 Tryz.underlying34 HI.out HZ0.out HZ1.out HZ2.out rfl (by decide) _ _ _ rfl HOW3.out ⟨w3.heap.size, 0, none⟩ 1 1 [.int .u8 (k3 : Int), .int .i64 num3, .string ⟨nm3.toArray⟩, .slice A3 kids3.length c3] rfl rfl ?c1 ?c2 (by decide) ?c3 ?c4 ?c5 (w3.heap.size + 1) ?c6 ?_)
      case c1 => exact World.news_of_block (heap_alloc_new w3 _)
      case c2 => intro u hu; simp at hu; rcases hu with rfl | rfl | rfl | rfl <;> rfl
      case c3 => unfold maxLen; omega
      case c4 => omega
      case c5 => simp; omega
      case c6 => simp
      intro g cap w4 hown4 hg4 hat hlt4
      have HS := Lib.hid (seq_step (top := top) (σ := σ) (x := ⟨k3, num3, nm3, A3, c3, kids3⟩) H0.out HF.out hn HC.out HOW.out HK.out HGO.out HGS.out ((Fr.refl b wr).drewN n1) HF3.out HH3.out HK3.out HR3.out hown4 hg4 hat rfl)
      clear hown4 hg4 hat
      go_wp2_with fail
      go_roundw
      case rel => exact HS.out.2
      case measure =>
        obtain ⟨h1, h2, h3, h4⟩ := HS.out.1
        rw [leftOf_ps h1, HM.out, if_pos h3]
        rcases h2 with h2 | h2
        · rw [if_neg h2]; omega
        · split <;> omega
end
end Go.Proofs.YtglaecalbamnkaaGreatDoor
/- The contracts of the parser's statements and block, from that of its statement. -/
namespace Go.Proofs.YtglaecalbamnkaaGreatDoor
open Go.RowKit Go.Maps
open PP (Tree)

section
set_option maxHeartbeats 1000000
set_option maxRecDepth 100000
variable {b : Nat} {X : Loc} {E : PP.Env} {σ : PP.St}
theorem goes_any (w : World) (g : Nat) (h : PS w b X E σ) (hB : Blk w g 39 #[.pointer (some ⟨b, 0, none⟩)]) :
    Calls Tryz.prog 60 #[.pointer (some ⟨g, 0, none⟩)] w fun e w' => e = .returned (.bool (PP.goes E false σ)) ∧ ∃ n, w' = w.drewN n := by
  have hc : w.cell? ⟨g, 0, none⟩ = some (.pointer (some ⟨b, 0, none⟩)) := hB.cell 0
  have hm := more_any w h
  have hs := fun n => sees_any ⟨#[125]⟩ (w.drewN n) (h.drewN n)
  have hnot : ∀ (x : Bool) (w : World), (Op.unary .not (.bool x)).run Tryz.prog w = .ok (.bool (!x)) w := fun _ _ => rfl
  have hgo : PP.goes E false σ = (PP.more E σ && !PP.sees E σ [125]) := by simp [PP.goes]
  rw [show (⟨#[125]⟩ : ByteArray).data.toList = [125] from rfl] at hs
  generalize hG : PP.goes E false σ = G at *
  cases hmo : PP.more E σ with
  | false =>
    rw [hmo] at hm hgo
    simp only [Bool.false_and] at hgo
    subst hgo
    have HM := Lib.hid hm
    clear hm hs hmo h hB hG
    go_enter Tryz.func60, Tryz.ntmps60
    go_wp2_with fail
    refine HM.out.mono ?_
    rintro e w1 ⟨rfl, n1, rfl⟩
    go_wp2_with fail
    go_ret
    exact ⟨rfl, n1, rfl⟩
  | true =>
    rw [hmo] at hm hgo
    simp only [Bool.true_and] at hgo
    subst hgo
    have HM := Lib.hid hm
    have HS := Lib.hid hs
    clear hm hs hmo h hB hG
    go_enter Tryz.func60, Tryz.ntmps60
    go_wp2_with fail
    refine HM.out.mono ?_
    rintro e w1 ⟨rfl, n1, rfl⟩
    go_wp2_with fail
    refine (HS.out n1).mono ?_
    rintro e w2 ⟨rfl, n2, rfl⟩
    go_wp2_with fail
    go_ret
    exact ⟨rfl, n1 + n2, rfl⟩
theorem cf_goes (v : Value) (W : World) : Sem.run Tryz.prog (callFunc 60 #[v]) W = .ok (Next.enter 60 #[v]) W := by kernel_rfl
theorem cf_stmt (v : Value) (W : World) : Sem.run Tryz.prog (callFunc 61 #[v]) W = .ok (Next.enter 61 #[v]) W := by kernel_rfl
def StmtOk (b : Nat) (X : Loc) (E : PP.Env) (σ' : PP.St) : Prop := ∀ W, Gx W b X → PS W b X E σ' → Calls Tryz.prog 61 #[.pointer (some ⟨b, 0, none⟩)] W (TreeEnd b X E σ' W fun σ'' t => ∃ n, PP.statement E n σ' = some (σ'', t))
theorem statements_of (w : World) (hg : Gx w b X) (h : PS w b X E σ) (HS : ∀ σ', σ.next ≤ σ'.next → StmtOk b X E σ') :
    Calls Tryz.prog 44 #[.pointer (some ⟨b, 0, none⟩)] w (SeqEnd b X E σ false w) := by
  have hmf : ∀ (fn : Fn) (first cap : Array Value) (w : World), (Instr.makeFunc fn first cap).run Tryz.prog w = .ok (.func fn first cap) w := fun _ _ _ _ => rfl
  have hbl := h.lt
  have hB := Blk.new w 39 #[.pointer (some ⟨b, 0, none⟩)]
  have hf := (Fr.refl b w).alloc (.cells #[.pointer (some ⟨b, 0, none⟩)] 39)
  have hseq := sequence_any false _ (hg.fr hf) (h.alloc (.cells #[.pointer (some ⟨b, 0, none⟩)] 39)) 60 61 #[] #[.pointer (some ⟨w.heap.size, 0, none⟩)] #[.pointer (some ⟨b, 0, none⟩)] #[]
    (fun W => cf_goes _ W) (fun W => cf_stmt _ W) (fun σ' W hp hf => goes_any W w.heap.size hp (hB.fr hf (by omega))) (fun σ' W hg hp hn _ => HS σ' hn W hg hp)
  have HSEQ := Lib.hid hseq
  have hc : (w.alloc (.cells #[.pointer (some ⟨b, 0, none⟩)] 39)).cell? ⟨w.heap.size, 0, none⟩ = some (.pointer (some ⟨b, 0, none⟩)) := hB.cell 0
  clear hseq hg h HS hB hf hc
  go_enter Tryz.func44, Tryz.ntmps44
  go_wp2_with fail
  refine HSEQ.out.mono ?_
  rintro e w1 ⟨A, c, ts, σ1, rfl, hk, hp, hf, hr, hn⟩
  go_wp2_with fail
  go_ret
  exact ⟨A, c, ts, σ1, rfl, hk.weak (fun g hg _ => by have h1 : (w.alloc (.cells #[.pointer (some ⟨b, 0, none⟩)] 39)).heap.size ≤ g := hg; simp at h1; omega), hp, ((Fr.refl b w).alloc _).trans hf, hr, hn⟩
theorem block_of (w : World) (hg : Gx w b X) (h : PS w b X E σ) (HS : ∀ σ', σ.next ≤ σ'.next → StmtOk b X E σ') :
    Calls Tryz.prog 86 #[.pointer (some ⟨b, 0, none⟩)] w (TreeEnd b X E σ w fun σ' t => ∃ n, PP.block E n σ = some (σ', t)) := by
  have hbl := h.lt
  have I0 := (Inv.start (Z := NoZ) h hg (fun h => h)).alloc #[.int .u8 0, .int .i64 0, .string ⟨#[]⟩, .slice none 0 0] 36 rfl
  have HI0 := Lib.hid I0
  have HHS := Lib.hid HS
  clear I0 h hg HS
  go_enter Tryz.func86, Tryz.ntmps86
  go_wp2_with fail
  refine (require_inv ⟨#[123]⟩ HI0.out).mono ?_
  rintro e w1 ⟨rfl, I1⟩
  have hle := PP.le_require E σ [123]
  have hst := statements_of w1 I1.gx I1.ps (fun σ' hn => HHS.out σ' (Nat.le_trans hle.1 hn))
  have HST := Lib.hid hst
  have HI1 := Lib.hid I1
  clear hst I1 HI0
  go_wp2_with fail
  refine HST.out.mono ?_
  rintro e w2 ⟨A, c, ts, σ2, rfl, hk2, hp2, hf2, ⟨m2, hr2⟩, hn2⟩
  have I2 := HI1.out.tree hp2 hf2 hk2
  have HI3 := Lib.hid (I2.alloc #[.int .u8 47, .int .i64 0, .string ⟨#[]⟩, .slice A ts.length c] 36 rfl)
  have hfin : PP.block E (m2 + 1) σ = some (PP.require E σ2 [125], .node 47 0 [] ts) := by
    rw [PP.block, show PP.stmts E m2 false (PP.require E σ [123]) [] = some (σ2, ts) from hr2]; rfl
  have hnn : σ.next ≤ (PP.require E σ2 [125]).next := Nat.le_trans (Nat.le_trans hle.1 hn2) (PP.le_require E σ2 [125]).1
  have HR2 := Lib.hid hfin
  clear hk2 hp2 hf2 I2 hr2 hfin
  go_wp2_with fail
  refine (require_inv ⟨#[125]⟩ HI3.out).mono ?_
  rintro e w4 ⟨rfl, I4⟩
  obtain ⟨⟨n0, n1, n2, n3⟩, _, _, _, _⟩ := I4.b0.four
  obtain ⟨⟨r0, r1, r2, r3⟩, q0, q1, q2, q3⟩ := I4.b1.four
  have HQ := Lib.hid (fun v0 v1 v2 v3 => I4.st1 v0 v1 v2 v3)
  clear I4 HI3 HI1
  go_wp2_with fail
  refine bodyPost_ret (node_result rfl rfl (HQ.out _ _ _ _).b1) rfl ?_
  exact (HQ.out _ _ _ _).done (k := 47) (num := 0) (nm := []) (c := c) (A := A) (kids := ts) (by simp) ⟨_, HR2.out⟩ hnn
end
end Go.Proofs.YtglaecalbamnkaaGreatDoor
/- The contract of the parser's choice, from that of its statement. -/
namespace Go.Proofs.YtglaecalbamnkaaGreatDoor
open Go.RowKit Go.Maps
open PP (Tree)

/-- A call that hands a tree back, over the bundle. -/
theorem tree_inv {w0 : World} {Z : Nat → Prop} {b : Nat} {X : Loc} {E : PP.Env} {σ : PP.St} {bl : List OwnB} {ks : List (Option Addr × List Tree)} {W : World} {f : FuncId} {args : Array Value} {R : PP.St → Tree → Prop}
    (h : Inv w0 Z b X E σ bl ks W) (hc : Calls Tryz.prog f args W (TreeEnd b X E σ W R)) :
    Calls Tryz.prog f args W fun r w' => ∃ k num nm A c kids σ', r = .returned (.agg #[.int .u8 ((k : Nat) : Int), .int .i64 num, .string ⟨(nm : List UInt8).toArray⟩, .slice A (kids : List Tree).length c]) ∧ Inv w0 Z b X E σ' bl ((A, kids) :: ks) w' ∧ R σ' (.node k num nm kids) ∧ σ.next ≤ σ'.next :=
  hc.mono fun r w' ⟨v, t, σ', hr, ⟨k, num, nm, A, c, kids, hv, ht, hk⟩, hp, hf, hR, hn⟩ => ⟨k, num, nm, A, c, kids, σ', by rw [hr, hv], h.tree hp hf hk, ht ▸ hR, hn⟩
def pick3 {α : Type} (i : Nat) (x y z : α) : α := if i = 0 then x else if i = 1 then y else z
/-- A new slice of three nodes. -/
theorem kids_three {w : World} {Z : Nat → Prop} (hz : Z w.heap.size) {k : Nat} {num : Int} {nm : List UInt8} {A : Option Addr} {c : Nat} {kids : List Tree} (h : KidsC w Z A kids)
    {k' : Nat} {num' : Int} {nm' : List UInt8} {A' : Option Addr} {c' : Nat} {kids' : List Tree} (h' : KidsC w Z A' kids')
    {k2 : Nat} {num2 : Int} {nm2 : List UInt8} {A2 : Option Addr} {c2 : Nat} {kids2 : List Tree} (h2 : KidsC w Z A2 kids2) (ty : TypeId) :
    KidsC (w.alloc (.cells #[.int .u8 (k : Int), .int .i64 num, .string ⟨nm.toArray⟩, .slice A kids.length c, .int .u8 (k' : Int), .int .i64 num', .string ⟨nm'.toArray⟩, .slice A' kids'.length c', .int .u8 (k2 : Int), .int .i64 num2, .string ⟨nm2.toArray⟩, .slice A2 kids2.length c2] ty)) Z (some ⟨w.heap.size, 0, none⟩) [.node k num nm kids, .node k' num' nm' kids', .node k2 num2 nm2 kids2] := by
  have hf := (Keep.refl Z w).alloc (.cells #[.int .u8 (k : Int), .int .i64 num, .string ⟨nm.toArray⟩, .slice A kids.length c, .int .u8 (k' : Int), .int .i64 num', .string ⟨nm'.toArray⟩, .slice A' kids'.length c', .int .u8 (k2 : Int), .int .i64 num2, .string ⟨nm2.toArray⟩, .slice A2 kids2.length c2] ty)
  have hc := fun j => cell_of_row (w.alloc (.cells #[.int .u8 (k : Int), .int .i64 num, .string ⟨nm.toArray⟩, .slice A kids.length c, .int .u8 (k' : Int), .int .i64 num', .string ⟨nm'.toArray⟩, .slice A' kids'.length c', .int .u8 (k2 : Int), .int .i64 num2, .string ⟨nm2.toArray⟩, .slice A2 kids2.length c2] ty)) w.heap.size j #[.int .u8 (k : Int), .int .i64 num, .string ⟨nm.toArray⟩, .slice A kids.length c, .int .u8 (k' : Int), .int .i64 num', .string ⟨nm'.toArray⟩, .slice A' kids'.length c', .int .u8 (k2 : Int), .int .i64 num2, .string ⟨nm2.toArray⟩, .slice A2 kids2.length c2] ty (0, 0) (heap_alloc_new w _)
  refine .mk _ _ w.heap.size 0 (fun i => pick3 i k k' k2) (fun i => pick3 i num num' num2) (fun i => pick3 i nm nm' nm2) (fun i => pick3 i A A' A2) (fun i => pick3 i c c' c2) (fun i => pick3 i kids kids' kids2) (fun _ => ⟨rfl, hz, by simp⟩) (fun i hi => ?_) (fun i hi => ?_) (fun i hi => ?_)
  · rcases (show i = 0 ∨ i = 1 ∨ i = 2 from by simp at hi; omega) with rfl | rfl | rfl <;> rfl
  · rcases (show i = 0 ∨ i = 1 ∨ i = 2 from by simp at hi; omega) with rfl | rfl | rfl
    · exact ⟨hc 0, hc 1, hc 2, hc 3⟩
    · exact ⟨hc 4, hc 5, hc 6, hc 7⟩
    · exact ⟨hc 8, hc 9, hc 10, hc 11⟩
  · rcases (show i = 0 ∨ i = 1 ∨ i = 2 from by simp at hi; omega) with rfl | rfl | rfl
    · exact h.keep hf
    · exact h'.keep hf
    · exact h2.keep hf
theorem Inv.kids3 {w0 W : World} {Z : Nat → Prop} {b : Nat} {X : Loc} {E : PP.Env} {σ : PP.St} {bl : List OwnB} {ks : List (Option Addr × List Tree)} (h : Inv w0 Z b X E σ bl ks W) {k : Nat} {num : Int} {nm : List UInt8} {A : Option Addr} {c : Nat} {kids : List Tree} (hm : (A, kids) ∈ ks)
    {k' : Nat} {num' : Int} {nm' : List UInt8} {A' : Option Addr} {c' : Nat} {kids' : List Tree} (hm' : (A', kids') ∈ ks)
    {k2 : Nat} {num2 : Int} {nm2 : List UInt8} {A2 : Option Addr} {c2 : Nat} {kids2 : List Tree} (hm2 : (A2, kids2) ∈ ks) {n : Nat} (hn : W.heap.size = n) :
    Inv w0 Z b X E σ bl ((some ⟨n, 0, none⟩, [.node k num nm kids, .node k' num' nm' kids', .node k2 num2 nm2 kids2]) :: ks) (W.alloc (.cells #[.int .u8 (k : Int), .int .i64 num, .string ⟨nm.toArray⟩, .slice A kids.length c, .int .u8 (k' : Int), .int .i64 num', .string ⟨nm'.toArray⟩, .slice A' kids'.length c', .int .u8 (k2 : Int), .int .i64 num2, .string ⟨nm2.toArray⟩, .slice A2 kids2.length c2] 36)) := by
  subst hn
  exact (h.more _).addKs (kids_three h.fresh (h.ks _ hm) (h.ks _ hm') (h.ks _ hm2) _)

section
set_option maxHeartbeats 1000000
set_option maxRecDepth 100000
attribute [local go_sem ↓] Go.wp_at_zero Go.wp_at_succ
variable {b : Nat} {X : Loc} {E : PP.Env} {σ : PP.St}
theorem choice_of (w : World) (hg : Gx w b X) (h : PS w b X E σ) (HS : ∀ σ', (PP.require E σ [105, 102]).next ≤ σ'.next → StmtOk b X E σ') :
    Calls Tryz.prog 85 #[.pointer (some ⟨b, 0, none⟩)] w (TreeEnd b X E σ w fun σ' t => ∃ n, PP.choice E n σ = some (σ', t)) := by
  have hbl := h.lt
  have I0 := (Inv.start (Z := NoZ) h hg (fun h => h)).alloc #[.int .u8 0, .int .i64 0, .string ⟨#[]⟩, .slice none 0 0] 36 rfl
  have HI0 := Lib.hid I0
  have HHS := Lib.hid HS
  have hle := (PP.le_require E σ [105, 102]).1
  clear I0 h hg HS
  go_enter Tryz.func85, Tryz.ntmps85
  go_wp2_with fail
  refine (require_inv ⟨#[105, 102]⟩ HI0.out).mono ?_
  rintro e w1 ⟨rfl, I1⟩
  have HE := Lib.hid (tree_inv I1 (expression_any _ w1 I1.gx I1.ps))
  clear I1 HI0
  go_wp2_with fail
  refine HE.out.mono ?_
  rintro e w2 ⟨k2, num2, nm2, A2, c2, kids2, σ2, rfl, I2, ⟨m2, hr2⟩, hn2⟩
  have I3 := I2.alloc #[.int .u8 (k2 : Int), .int .i64 num2, .string ⟨nm2.toArray⟩, .slice A2 kids2.length c2] 36 rfl
  have hn2' : (PP.require E σ [105, 102]).next ≤ σ2.next := hn2
  have HB := Lib.hid (tree_inv I3 (block_of _ I3.gx I3.ps (fun σ' hn => HHS.out σ' (Nat.le_trans hn2' hn))))
  have HR2 := Lib.hid hr2
  clear I2 I3 hr2 HE hn2
  go_wp2_with fail
  refine HB.out.mono ?_
  rintro e w4 ⟨k4, num4, nm4, A4, c4, kids4, σ4, rfl, I4, ⟨m4, hr4⟩, hn4⟩
  have HI5 := Lib.hid (I4.alloc #[.int .u8 (k4 : Int), .int .i64 num4, .string ⟨nm4.toArray⟩, .slice A4 kids4.length c4] 36 rfl)
  have HR4 := Lib.hid hr4
  clear I4 hr4 HB
  go_wp2_with fail
  refine (require_inv ⟨#[101, 108, 115, 101]⟩ HI5.out).mono ?_
  rintro e w6 ⟨rfl, I6⟩
  have hle6 := (PP.le_require E σ4 [101, 108, 115, 101]).1
  have HB7 := Lib.hid (tree_inv I6 (block_of _ I6.gx I6.ps (fun σ' hn => HHS.out σ' (Nat.le_trans (Nat.le_trans hn2' hn4) (Nat.le_trans hle6 hn)))))
  have HB7d := Lib.hid (tree_inv I6.drew (block_of _ I6.drew.gx I6.drew.ps (fun σ' hn => HHS.out σ' (Nat.le_trans (Nat.le_trans hn2' hn4) (Nat.le_trans hle6 hn)))))
  obtain ⟨⟨x0, x1, x2, x3⟩, _, _, _, _⟩ := I6.b0.four
  obtain ⟨⟨y0, y1, y2, y3⟩, _, _, _, _⟩ := I6.b1.four
  have HI6 := Lib.hid I6
  clear I6 HI5
  go_wp2_with fail
  go_region_held3 (fun W => (W.cell? ⟨w4.heap.size, 0, none⟩ = some (.int .u8 (k4 : Int)) ∧ W.cell? ⟨w4.heap.size, 1, none⟩ = some (.int .i64 num4) ∧ W.cell? ⟨w4.heap.size, 2, none⟩ = some (.string ⟨nm4.toArray⟩) ∧ W.cell? ⟨w4.heap.size, 3, none⟩ = some (.slice A4 kids4.length c4)) ∧ (W.cell? ⟨w2.heap.size, 0, none⟩ = some (.int .u8 (k2 : Int)) ∧ W.cell? ⟨w2.heap.size, 1, none⟩ = some (.int .i64 num2) ∧ W.cell? ⟨w2.heap.size, 2, none⟩ = some (.string ⟨nm2.toArray⟩) ∧ W.cell? ⟨w2.heap.size, 3, none⟩ = some (.slice A2 kids2.length c2)))
   (with_reducible first | exact ⟨HI6.out.b0.four.1, HI6.out.b1.four.1⟩ | exact ⟨HI6.out.drew.b0.four.1, HI6.out.drew.b1.four.1⟩ | exact ⟨I8.b0.four.1, I8.b1.four.1⟩ | exact ⟨(I8.more _).b0.four.1, (I8.more _).b1.four.1⟩ | exact ⟨((I8.st2 _ _ _ _).more _).b0.four.1, ((I8.st2 _ _ _ _).more _).b1.four.1⟩)
   (first | (go_at_call 86; (first | (with_reducible refine HB7.out.mono ?_) | (with_reducible refine HB7d.out.mono ?_)); rintro e w8 ⟨k8, num8, nm8, A8, c8, kids8, σ8, rfl, I8, ⟨m8, hr8⟩, hn8⟩; obtain ⟨⟨z0, z1, z2, z3⟩, q0, q1, q2, q3⟩ := I8.b2.four; have hRlt := I8.b2.lt))
  have HQ := Lib.hid (fun v0 v1 v2 v3 => (I8.st2 v0 v1 v2 v3).kids3 (k := k2) (num := num2) (nm := nm2) (A := A2) (c := c2) (kids := kids2) (by simp) (k' := k4) (num' := num4) (nm' := nm4) (A' := A4) (c' := c4) (kids' := kids4) (by simp) (k2 := k8) (num2 := num8) (nm2 := nm8) (A2 := A8) (c2 := c8) (kids2 := kids8) (by simp) (n := w8.heap.size) (by simp))
  have hfin : PP.choice E (max (max m2 m4) m8 + 1) σ = some (σ8, .node 41 0 [] [.node k2 num2 nm2 kids2, .node k4 num4 nm4 kids4, .node k8 num8 nm8 kids8]) := by
    have e2 : PP.binary E (max (max m2 m4) m8) 0 (PP.require E σ [105, 102]) = some (σ2, .node k2 num2 nm2 kids2) := PP.binary_le E (by omega) HR2.out
    have e4 : PP.block E (max (max m2 m4) m8) σ2 = some (σ4, .node k4 num4 nm4 kids4) := PP.block_le E (by omega) HR4.out
    have e8 : PP.block E (max (max m2 m4) m8) (PP.require E σ4 [101, 108, 115, 101]) = some (σ8, .node k8 num8 nm8 kids8) := PP.block_le E (by omega) hr8
    generalize max (max m2 m4) m8 = M at *
    rw [PP.choice, e2, Option.bind_some, e4, Option.bind_some, e8]; rfl
  have hnn : σ.next ≤ σ8.next := by
    have h1 : (PP.require E σ4 [101, 108, 115, 101]).next ≤ σ8.next := hn8
    omega
  have HFIN := Lib.hid hfin
  clear hfin I8 HB7 HB7d HI6 HR2 HR4 hr8
  go_wp2_with fail
  refine bodyPost_ret (node_result rfl rfl (HQ.out _ _ _ _).b2) rfl ?_
  exact (HQ.out _ _ _ _).done (A := some ⟨w8.heap.size, 0, none⟩) (kids := [.node k2 num2 nm2 kids2, .node k4 num4 nm4 kids4, .node k8 num8 nm8 kids8]) (k := 41) (num := 0) (nm := []) (c := 3) (by simp) ⟨_, HFIN.out⟩ hnn
end
end Go.Proofs.YtglaecalbamnkaaGreatDoor
/- The seven ways through the parser's statement, and the statements tied (written by wip/genstmt.py). -/
namespace Go.Proofs.YtglaecalbamnkaaGreatDoor
open Go.RowKit Go.Maps
open PP (Tree)

section
variable {w0 : World} {Z : Nat → Prop} {b : Nat} {X : Loc} {E : PP.Env} {σ : PP.St} {bl : List OwnB} {ks : List (Option Addr × List Tree)} {W : World}
theorem sees_b (s : ByteArray) {t : Bool} (ht : PP.sees E σ s.data.toList = t) (h : Inv w0 Z b X E σ bl ks W) :
    Calls Tryz.prog 37 #[.pointer (some ⟨b, 0, none⟩), .string s] W fun r w' => r = .returned (.bool t) ∧ Inv w0 Z b X E σ bl ks w' :=
  (sees_any s W h.ps).mono fun r w' ⟨h1, n, h2⟩ => ⟨by rw [h1, ht], by subst h2; exact h.drewN n⟩
theorem transfer_inv (kind : Nat) (h : Inv w0 Z b X E σ bl ks W) (k : Nat) (num : Int) (nm : List UInt8) (A : Option Addr) (c : Nat) (kids : List Tree) (hm : (A, kids) ∈ ks) :
    Calls Tryz.prog 87 #[.pointer (some ⟨b, 0, none⟩), .int .u8 (kind : Int), .agg #[.int .u8 (k : Int), .int .i64 num, .string ⟨nm.toArray⟩, .slice A kids.length c]] W fun r w' =>
      ∃ A' c', r = .returned (.agg #[.int .u8 (kind : Int), .int .i64 (PP.numP E (PP.require E σ [44]) 0 7).2, .string ⟨#[]⟩, .slice A' 1 c']) ∧ Inv w0 Z b X E (PP.transfer E kind (.node k num nm kids) σ).1 bl ((A', [.node k num nm kids]) :: ks) w' := by
  refine (transfer_any kind W (fun g => (Z g ∨ w0.heap.size ≤ g) ∧ g ∉ bl.map (·.1)) (fun hz => ?_) h.gx h.ps k num nm A c kids (h.ks _ hm)).mono ?_
  · rcases hz.1 with hz | hz
    · exact h.zb hz
    · have := h.lt; omega
  · rintro r w' ⟨v, rfl, ⟨k', num', nm', A', c', kids', rfl, ht, hk'⟩, hp, hf⟩
    have ht' : Tree.node kind (PP.numP E (PP.require E σ [44]) 0 7).2 [] [.node k num nm kids] = .node k' num' nm' kids' := ht
    injection ht' with e1 e2 e3 e4
    subst e1 e2 e3 e4
    refine ⟨A', c', rfl, (h.call hp hf).addKs (hk'.weak (fun g hg hlt => ?_))⟩
    rcases hg with hg | hg
    · exact hg
    · refine ⟨.inr (Nat.le_trans h.fr.size hg), fun hm => ?_⟩
      obtain ⟨y, hy, rfl⟩ := List.mem_map.1 hm
      have := (h.own y hy).1.lt
      omega
theorem stmt_of_lt {b : Nat} {X : Loc} {E : PP.Env} {σ σ1 : PP.St} (HS : ∀ σ', σ.next < σ'.next → StmtOk b X E σ') (h : σ.next < σ1.next) : ∀ σ', σ1.next ≤ σ'.next → StmtOk b X E σ' := fun σ' hn => HS σ' (by omega)
end

section
set_option maxHeartbeats 1000000
set_option maxRecDepth 100000
attribute [local go_sem ↓] Go.wp_at_zero Go.wp_at_succ
variable {b : Nat} {X : Loc} {E : PP.Env} {σ : PP.St}
theorem stmt_if (w : World) (hg : Gx w b X) (h : PS w b X E σ) (HS : ∀ σ', σ.next < σ'.next → StmtOk b X E σ') (s0 : PP.sees E σ [105, 102] = true) :
    Calls Tryz.prog 61 #[.pointer (some ⟨b, 0, none⟩)] w (TreeEnd b X E σ w fun σ' t => ∃ n, PP.statement E n σ = some (σ', t)) := by
  have hbl := h.lt
  have hlen := h.len
  have hpn := h.next
  have I0 := ((Inv.start (Z := NoZ) h hg (fun h => h)).alloc #[.int .u8 0, .int .i64 0, .string ⟨#[]⟩, .slice none 0 0] 36 rfl).alloc #[.int .u8 0, .int .i64 0, .string ⟨#[]⟩, .slice none 0 0] 36 (n := w.heap.size + 1) (by simp)
  have HI0 := Lib.hid I0
  have HHS := Lib.hid HS
  have S0 := Lib.hid s0
  clear I0 h hg HS s0
  go_enter Tryz.func61, Tryz.ntmps61
  go_wp2_with fail
  refine (sees_b ⟨#[105, 102]⟩ S0.out HI0.out).mono ?_
  rintro e v0 ⟨rfl, J0⟩
  have hnx : σ.next < (PP.require E σ [105, 102]).next := by unfold PP.require; rw [S0.out]; simp [PP.adv]
  have HC := Lib.hid (tree_inv J0 (choice_of _ J0.gx J0.ps (stmt_of_lt HHS.out hnx)))
  clear J0 hnx
  go_wp2_with fail
  refine HC.out.mono ?_
  rintro e w5 ⟨k5, num5, nm5, A5, c5, kids5, σ5, rfl, I5, ⟨m5, hr5⟩, hn5⟩
  have HFIN := Lib.hid (show PP.statement E (m5 + 1) σ = some (σ5, .node k5 num5 nm5 kids5) by rw [PP.statement]; simp only [S0.out, if_true]; exact hr5)
  have hnn := hn5
  obtain ⟨⟨n0, n1, n2, n3⟩, g0, g1, g2, g3⟩ := I5.b0.four
  obtain ⟨⟨r0, r1, r2, r3⟩, q0, q1, q2, q3⟩ := I5.b1.four
  have HQ := Lib.hid (fun v0 v1 v2 v3 => (I5.st0 (.int .u8 (k5 : Int)) (.int .i64 num5) (.string ⟨nm5.toArray⟩) (.slice A5 kids5.length c5)).st1 v0 v1 v2 v3)
  clear HC I5 hr5 hn5
  clear HHS
  go_wp2_with fail
  refine bodyPost_ret (node_result rfl rfl (HQ.out _ _ _ _).b1) rfl ?_
  exact (HQ.out _ _ _ _).done (k := k5) (num := num5) (nm := nm5) (c := c5) (A := A5) (kids := kids5) (by simp) ⟨_, HFIN.out⟩ hnn
theorem stmt_for (w : World) (hg : Gx w b X) (h : PS w b X E σ) (HS : ∀ σ', σ.next < σ'.next → StmtOk b X E σ') (s0 : PP.sees E σ [105, 102] = false) (s1 : PP.sees E σ [102, 111, 114] = true) :
    Calls Tryz.prog 61 #[.pointer (some ⟨b, 0, none⟩)] w (TreeEnd b X E σ w fun σ' t => ∃ n, PP.statement E n σ = some (σ', t)) := by
  have hbl := h.lt
  have hlen := h.len
  have hpn := h.next
  have I0 := ((Inv.start (Z := NoZ) h hg (fun h => h)).alloc #[.int .u8 0, .int .i64 0, .string ⟨#[]⟩, .slice none 0 0] 36 rfl).alloc #[.int .u8 0, .int .i64 0, .string ⟨#[]⟩, .slice none 0 0] 36 (n := w.heap.size + 1) (by simp)
  have HI0 := Lib.hid I0
  have HHS := Lib.hid HS
  have S0 := Lib.hid s0
  have S1 := Lib.hid s1
  clear I0 h hg HS s0 s1
  go_enter Tryz.func61, Tryz.ntmps61
  go_wp2_with fail
  refine (sees_b ⟨#[105, 102]⟩ S0.out HI0.out).mono ?_
  rintro e v0 ⟨rfl, J0⟩
  go_wp2_with fail
  refine (sees_b ⟨#[102, 111, 114]⟩ S1.out J0).mono ?_
  rintro e v1 ⟨rfl, J1⟩
  have hlt := (PP.sees_err E S1.out).2
  have herr := (PP.sees_err E S1.out).1
  have cb := J1.ps.cells.2.1
  have fb := J1.ps.frozen 1
  have HA := Lib.hid (J1.adv hlt)
  clear J0 J1 herr
  go_wp2_with fail
  refine (nameP_inv HA.out).mono ?_
  rintro e w3 ⟨rfl, I3⟩
  generalize hNM : PP.nameP E (PP.adv σ) = q at *
  obtain ⟨σ3, nm⟩ := q
  have HNM := Lib.hid hNM
  have l3 : σ.next + 1 ≤ σ3.next := by have := (PP.le_nameP E (PP.adv σ)).1; rw [hNM] at this; exact this
  clear hNM
  simp only [] at I3
  obtain ⟨⟨n0, n1, n2, n3⟩, g0, g1, g2, g3⟩ := I3.b0.four
  have HI4 := Lib.hid (I3.st0 (.int .u8 42) (.int .i64 0) (.string ⟨nm.toArray⟩) (.slice none 0 0))
  clear I3 HA cb fb
  go_wp2_with fail
  clear n0 n1 n2 n3 g0 g1 g2 g3
  refine (require_inv ⟨#[60]⟩ HI4.out).mono ?_
  rintro e w5 ⟨rfl, I5⟩
  have HI5 := Lib.hid I5
  clear I5 HI4
  go_wp2_with fail
  refine (numP_inv 1 1000 (by omega) (by omega) (by omega) HI5.out).mono ?_
  rintro e w6 ⟨rfl, I6⟩
  generalize hV : PP.numP E (PP.require E σ3 [60]) 1 1000 = q at *
  obtain ⟨σ6, val⟩ := q
  have hV' : PP.numP E (PP.require E σ3 [60]) 1 1000 = (σ6, val) := hV
  have I6' : Inv w NoZ b X E σ6 _ _ w6 := I6
  have l6 : σ3.next ≤ σ6.next := by have h1 := (PP.le_require E σ3 [60]).1; have h2 := (PP.le_numP E (PP.require E σ3 [60]) 1 1000).1; rw [hV'] at h2; exact Nat.le_trans h1 h2
  have HV := Lib.hid hV'
  obtain ⟨⟨n0, n1, n2, n3⟩, g0, g1, g2, g3⟩ := I6'.b0.four
  have I7 : Inv w NoZ b X E σ6 ((w.heap.size + 1, 36, #[.int .u8 42, .int .i64 val, .string ⟨nm.toArray⟩, .slice none 0 0]) :: _) _ _ := I6'.set0 1 (.int .i64 val)
  have HI7 := Lib.hid I7
  clear I7 I6 I6' HI5 hV hV'
  go_wp2_with fail
  have hlt7 : σ.next < σ6.next := by omega
  refine (tree_inv HI7.out (block_of _ HI7.out.gx HI7.out.ps (stmt_of_lt HHS.out hlt7))).mono ?_
  rintro e w8 ⟨k8, num8, nm8, A8, c8, kids8, σ8, rfl, I8, ⟨m8, hr8⟩, hn8⟩
  clear n0 n1 n2 n3 g0 g1 g2 g3
  have HFIN := Lib.hid (show PP.statement E (m8 + 1) σ = some (σ8, .node 42 val nm [.node k8 num8 nm8 kids8]) by rw [PP.statement]; simp only [S0.out, S1.out, Bool.false_eq_true, if_false, if_true]; rw [HNM.out]; simp only []; rw [HV.out]; simp only []; rw [hr8]; rfl)
  have hnn : σ.next ≤ σ8.next := by have : σ6.next ≤ σ8.next := hn8; omega
  obtain ⟨⟨n0, n1, n2, n3⟩, g0, g1, g2, g3⟩ := I8.b0.four
  obtain ⟨⟨r0, r1, r2, r3⟩, q0, q1, q2, q3⟩ := I8.b1.four
  have hNlt := I8.b0.lt
  have hRlt := I8.b1.lt
  have HQ := Lib.hid (fun v0 v1 v2 v3 => ((I8.set0 3 (.slice (some ⟨w8.heap.size, 0, none⟩) 1 1)).st1 v0 v1 v2 v3).kids1 (k := k8) (num := num8) (nm := nm8) (A := A8) (c := c8) (kids := kids8) (by simp) (n := w8.heap.size) (by simp))
  clear HI7 I8 hr8 hn8 HNM
  clear HHS
  go_wp2_with fail
  refine bodyPost_ret (node_result rfl rfl (HQ.out _ _ _ _).b1) rfl ?_
  exact (HQ.out _ _ _ _).done (A := some ⟨w8.heap.size, 0, none⟩) (kids := [.node k8 num8 nm8 kids8]) (k := 42) (num := val) (nm := nm) (c := 1) (by simp) ⟨_, HFIN.out⟩ hnn
theorem stmt_lock (w : World) (hg : Gx w b X) (h : PS w b X E σ) (HS : ∀ σ', σ.next < σ'.next → StmtOk b X E σ') (s0 : PP.sees E σ [105, 102] = false) (s1 : PP.sees E σ [102, 111, 114] = false) (s2 : PP.sees E σ [119, 104, 105, 108, 101] = false) (s3 : PP.sees E σ [105, 110] = false) (s4 : PP.sees E σ [111, 117, 116] = false) (s5 : PP.sees E σ [108, 111, 99, 107] = true) :
    Calls Tryz.prog 61 #[.pointer (some ⟨b, 0, none⟩)] w (TreeEnd b X E σ w fun σ' t => ∃ n, PP.statement E n σ = some (σ', t)) := by
  have hbl := h.lt
  have hlen := h.len
  have hpn := h.next
  have I0 := ((Inv.start (Z := NoZ) h hg (fun h => h)).alloc #[.int .u8 0, .int .i64 0, .string ⟨#[]⟩, .slice none 0 0] 36 rfl).alloc #[.int .u8 0, .int .i64 0, .string ⟨#[]⟩, .slice none 0 0] 36 (n := w.heap.size + 1) (by simp)
  have HI0 := Lib.hid I0
  have HHS := Lib.hid HS
  have S0 := Lib.hid s0
  have S1 := Lib.hid s1
  have S2 := Lib.hid s2
  have S3 := Lib.hid s3
  have S4 := Lib.hid s4
  have S5 := Lib.hid s5
  clear I0 h hg HS s0 s1 s2 s3 s4 s5
  go_enter Tryz.func61, Tryz.ntmps61
  go_wp2_with fail
  refine (sees_b ⟨#[105, 102]⟩ S0.out HI0.out).mono ?_
  rintro e v0 ⟨rfl, J0⟩
  go_wp2_with fail
  refine (sees_b ⟨#[102, 111, 114]⟩ S1.out J0).mono ?_
  rintro e v1 ⟨rfl, J1⟩
  go_wp2_with fail
  refine (sees_b ⟨#[119, 104, 105, 108, 101]⟩ S2.out J1).mono ?_
  rintro e v2 ⟨rfl, J2⟩
  go_wp2_with fail
  refine (sees_b ⟨#[105, 110]⟩ S3.out J2).mono ?_
  rintro e v3 ⟨rfl, J3⟩
  go_wp2_with fail
  refine (sees_b ⟨#[111, 117, 116]⟩ S4.out J3).mono ?_
  rintro e v4 ⟨rfl, J4⟩
  go_wp2_with fail
  refine (sees_b ⟨#[108, 111, 99, 107]⟩ S5.out J4).mono ?_
  rintro e v5 ⟨rfl, J5⟩
  have hlt := (PP.sees_err E S5.out).2
  have herr := (PP.sees_err E S5.out).1
  have cb := J5.ps.cells.2.1
  have fb := J5.ps.frozen 1
  have HA := Lib.hid (J5.adv hlt)
  clear J0 J1 J2 J3 J4 J5 herr
  go_wp2_with fail
  refine (nameP_inv HA.out).mono ?_
  rintro e w3 ⟨rfl, I3⟩
  generalize hNM : PP.nameP E (PP.adv σ) = q at *
  obtain ⟨σ3, nm⟩ := q
  have HNM := Lib.hid hNM
  have l3 : σ.next + 1 ≤ σ3.next := by have := (PP.le_nameP E (PP.adv σ)).1; rw [hNM] at this; exact this
  clear hNM
  simp only [] at I3
  obtain ⟨⟨n0, n1, n2, n3⟩, g0, g1, g2, g3⟩ := I3.b0.four
  have HI4 := Lib.hid (I3.st0 (.int .u8 46) (.int .i64 0) (.string ⟨nm.toArray⟩) (.slice none 0 0))
  clear I3 HA cb fb
  go_wp2_with fail
  have hlt7 : σ.next < σ3.next := by omega
  refine (tree_inv HI4.out (block_of _ HI4.out.gx HI4.out.ps (stmt_of_lt HHS.out hlt7))).mono ?_
  rintro e w8 ⟨k8, num8, nm8, A8, c8, kids8, σ8, rfl, I8, ⟨m8, hr8⟩, hn8⟩
  clear n0 n1 n2 n3 g0 g1 g2 g3
  have HFIN := Lib.hid (show PP.statement E (m8 + 1) σ = some (σ8, .node 46 0 nm [.node k8 num8 nm8 kids8]) by rw [PP.statement]; simp only [S0.out, S1.out, S2.out, S3.out, S4.out, S5.out, Bool.false_eq_true, if_false, if_true]; rw [HNM.out]; simp only []; rw [hr8]; rfl)
  have hnn : σ.next ≤ σ8.next := by have : σ3.next ≤ σ8.next := hn8; omega
  obtain ⟨⟨n0, n1, n2, n3⟩, g0, g1, g2, g3⟩ := I8.b0.four
  obtain ⟨⟨r0, r1, r2, r3⟩, q0, q1, q2, q3⟩ := I8.b1.four
  have hNlt := I8.b0.lt
  have hRlt := I8.b1.lt
  have HQ := Lib.hid (fun v0 v1 v2 v3 => ((I8.set0 3 (.slice (some ⟨w8.heap.size, 0, none⟩) 1 1)).st1 v0 v1 v2 v3).kids1 (k := k8) (num := num8) (nm := nm8) (A := A8) (c := c8) (kids := kids8) (by simp) (n := w8.heap.size) (by simp))
  clear HI4 I8 hr8 hn8 HNM
  clear HHS
  go_wp2_with fail
  refine bodyPost_ret (node_result rfl rfl (HQ.out _ _ _ _).b1) rfl ?_
  exact (HQ.out _ _ _ _).done (A := some ⟨w8.heap.size, 0, none⟩) (kids := [.node k8 num8 nm8 kids8]) (k := 46) (num := 0) (nm := nm) (c := 1) (by simp) ⟨_, HFIN.out⟩ hnn
theorem stmt_while (w : World) (hg : Gx w b X) (h : PS w b X E σ) (HS : ∀ σ', σ.next < σ'.next → StmtOk b X E σ') (s0 : PP.sees E σ [105, 102] = false) (s1 : PP.sees E σ [102, 111, 114] = false) (s2 : PP.sees E σ [119, 104, 105, 108, 101] = true) :
    Calls Tryz.prog 61 #[.pointer (some ⟨b, 0, none⟩)] w (TreeEnd b X E σ w fun σ' t => ∃ n, PP.statement E n σ = some (σ', t)) := by
  have hbl := h.lt
  have hlen := h.len
  have hpn := h.next
  have I0 := ((Inv.start (Z := NoZ) h hg (fun h => h)).alloc #[.int .u8 0, .int .i64 0, .string ⟨#[]⟩, .slice none 0 0] 36 rfl).alloc #[.int .u8 0, .int .i64 0, .string ⟨#[]⟩, .slice none 0 0] 36 (n := w.heap.size + 1) (by simp)
  have HI0 := Lib.hid I0
  have HHS := Lib.hid HS
  have S0 := Lib.hid s0
  have S1 := Lib.hid s1
  have S2 := Lib.hid s2
  clear I0 h hg HS s0 s1 s2
  go_enter Tryz.func61, Tryz.ntmps61
  go_wp2_with fail
  refine (sees_b ⟨#[105, 102]⟩ S0.out HI0.out).mono ?_
  rintro e v0 ⟨rfl, J0⟩
  go_wp2_with fail
  refine (sees_b ⟨#[102, 111, 114]⟩ S1.out J0).mono ?_
  rintro e v1 ⟨rfl, J1⟩
  go_wp2_with fail
  refine (sees_b ⟨#[119, 104, 105, 108, 101]⟩ S2.out J1).mono ?_
  rintro e v2 ⟨rfl, J2⟩
  have hlt := (PP.sees_err E S2.out).2
  have herr := (PP.sees_err E S2.out).1
  have cb := J2.ps.cells.2.1
  have fb := J2.ps.frozen 1
  have HA := Lib.hid (J2.adv hlt)
  clear J0 J1 J2 herr
  go_wp2_with fail
  refine (tree_inv HA.out (expression_any _ _ HA.out.gx HA.out.ps)).mono ?_
  rintro e w3 ⟨k3, num3, nm3, A3, c3, kids3, σ3, rfl, I3, ⟨m3, hr3⟩, hn3⟩
  have HR3 := Lib.hid hr3
  have l3 : σ.next + 1 ≤ σ3.next := hn3
  have HI4 := Lib.hid (I3.alloc #[.int .u8 (k3 : Int), .int .i64 num3, .string ⟨nm3.toArray⟩, .slice A3 kids3.length c3] 36 rfl)
  clear I3 HA cb fb hr3 hn3
  go_wp2_with fail
  refine (require_inv ⟨#[98, 111, 117, 110, 100]⟩ HI4.out).mono ?_
  rintro e w5 ⟨rfl, I5⟩
  have HI5 := Lib.hid I5
  clear I5 HI4
  go_wp2_with fail
  refine (numP_inv 1 1000 (by omega) (by omega) (by omega) HI5.out).mono ?_
  rintro e w6 ⟨rfl, I6⟩
  generalize hV : PP.numP E (PP.require E σ3 [98, 111, 117, 110, 100]) 1 1000 = q at *
  obtain ⟨σ6, val⟩ := q
  have hV' : PP.numP E (PP.require E σ3 [98, 111, 117, 110, 100]) 1 1000 = (σ6, val) := hV
  have I6' : Inv w NoZ b X E σ6 _ _ w6 := I6
  have l6 : σ3.next ≤ σ6.next := by have h1 := (PP.le_require E σ3 [98, 111, 117, 110, 100]).1; have h2 := (PP.le_numP E (PP.require E σ3 [98, 111, 117, 110, 100]) 1 1000).1; rw [hV'] at h2; exact Nat.le_trans h1 h2
  have HV := Lib.hid hV'
  have hlt7 : σ.next < σ6.next := by omega
  obtain ⟨⟨n0, n1, n2, n3⟩, g0, g1, g2, g3⟩ := I6'.b1.four
  have HI7 := Lib.hid (I6'.st1 (.int .u8 43) (.int .i64 val) (.string ⟨#[]⟩) (.slice none 0 0))
  clear I6 I6' HI5 hV hV'
  go_wp2_with fail
  clear n0 n1 n2 n3 g0 g1 g2 g3
  generalize ((((w6.setCell ⟨w.heap.size + 1, 0, none⟩ (.int .u8 43)).setCell ⟨w.heap.size + 1, 1, none⟩ (.int .i64 val)).setCell ⟨w.heap.size + 1, 2, none⟩ (.string ⟨#[]⟩)).setCell ⟨w.heap.size + 1, 3, none⟩ (.slice none 0 0)) = w7 at *
  obtain ⟨⟨x0, x1, x2, x3⟩, _, _, _, _⟩ := HI7.out.b0.four
  have HB7 := Lib.hid (tree_inv HI7.out (block_of _ HI7.out.gx HI7.out.ps (stmt_of_lt HHS.out hlt7)))
  have HB7d := Lib.hid (tree_inv HI7.out.drew (block_of _ HI7.out.drew.gx HI7.out.drew.ps (stmt_of_lt HHS.out hlt7)))
  go_region_held3 (fun W => W.cell? ⟨w3.heap.size, 0, none⟩ = some (.int .u8 (k3 : Int)) ∧ W.cell? ⟨w3.heap.size, 1, none⟩ = some (.int .i64 num3) ∧ W.cell? ⟨w3.heap.size, 2, none⟩ = some (.string ⟨nm3.toArray⟩) ∧ W.cell? ⟨w3.heap.size, 3, none⟩ = some (.slice A3 kids3.length c3))
   (with_reducible first | exact HI7.out.b0.four.1 | exact HI7.out.drew.b0.four.1 | exact I8.b0.four.1 | exact (I8.more _).b0.four.1 | exact ((I8.set1 _ _).more _).b0.four.1)
   (first | (go_at_call 86; (first | (with_reducible refine HB7.out.mono ?_) | (with_reducible refine HB7d.out.mono ?_)); rintro e w8 ⟨k8, num8, nm8, A8, c8, kids8, σ8, rfl, I8, ⟨m8, hr8⟩, hn8⟩; obtain ⟨⟨z0, z1, z2, z3⟩, q0, q1, q2, q3⟩ := I8.b1.four; obtain ⟨⟨r0, r1, r2, r3⟩, p0, p1, p2, p3⟩ := I8.b2.four; have hNlt := I8.b1.lt; have hRlt := I8.b2.lt))
  have HFIN := Lib.hid (show PP.statement E (max m3 m8 + 1) σ = some (σ8, .node 43 val [] [.node k3 num3 nm3 kids3, .node k8 num8 nm8 kids8]) by
    have e3 : PP.binary E (max m3 m8) 0 (PP.adv σ) = some (σ3, .node k3 num3 nm3 kids3) := PP.binary_le E (by omega) HR3.out
    have e8 : PP.block E (max m3 m8) σ6 = some (σ8, .node k8 num8 nm8 kids8) := PP.block_le E (by omega) hr8
    generalize max m3 m8 = M at *
    rw [PP.statement]; simp only [S0.out, S1.out, S2.out, Bool.false_eq_true, if_false, if_true]; rw [e3, Option.bind_some]; simp only []; rw [HV.out]; simp only []; rw [e8]; rfl)
  have hnn : σ.next ≤ σ8.next := by have : σ6.next ≤ σ8.next := hn8; omega
  have HQ := Lib.hid (fun v0 v1 v2 v3 => ((I8.set1 3 (.slice (some ⟨w8.heap.size, 0, none⟩) 2 2)).st2 v0 v1 v2 v3).kids2 (k := k3) (num := num3) (nm := nm3) (A := A3) (c := c3) (kids := kids3) (by simp) (k' := k8) (num' := num8) (nm' := nm8) (A' := A8) (c' := c8) (kids' := kids8) (by simp) (n := w8.heap.size) (by simp))
  clear I8 hr8 hn8 HB7 HB7d HI7 HV HR3 x0 x1 x2 x3
  clear HHS
  go_wp2_with fail
  refine bodyPost_ret (node_result rfl rfl (HQ.out _ _ _ _).b2) rfl ?_
  exact (HQ.out _ _ _ _).done (A := some ⟨w8.heap.size, 0, none⟩) (kids := [.node k3 num3 nm3 kids3, .node k8 num8 nm8 kids8]) (k := 43) (num := val) (nm := []) (c := 2) (by simp) ⟨_, HFIN.out⟩ hnn
theorem stmt_in (w : World) (hg : Gx w b X) (h : PS w b X E σ) (HS : ∀ σ', σ.next < σ'.next → StmtOk b X E σ') (s0 : PP.sees E σ [105, 102] = false) (s1 : PP.sees E σ [102, 111, 114] = false) (s2 : PP.sees E σ [119, 104, 105, 108, 101] = false) (s3 : PP.sees E σ [105, 110] = true) :
    Calls Tryz.prog 61 #[.pointer (some ⟨b, 0, none⟩)] w (TreeEnd b X E σ w fun σ' t => ∃ n, PP.statement E n σ = some (σ', t)) := by
  have hbl := h.lt
  have hlen := h.len
  have hpn := h.next
  have I0 := ((Inv.start (Z := NoZ) h hg (fun h => h)).alloc #[.int .u8 0, .int .i64 0, .string ⟨#[]⟩, .slice none 0 0] 36 rfl).alloc #[.int .u8 0, .int .i64 0, .string ⟨#[]⟩, .slice none 0 0] 36 (n := w.heap.size + 1) (by simp)
  have HI0 := Lib.hid I0
  have HHS := Lib.hid HS
  have S0 := Lib.hid s0
  have S1 := Lib.hid s1
  have S2 := Lib.hid s2
  have S3 := Lib.hid s3
  clear I0 h hg HS s0 s1 s2 s3
  go_enter Tryz.func61, Tryz.ntmps61
  go_wp2_with fail
  refine (sees_b ⟨#[105, 102]⟩ S0.out HI0.out).mono ?_
  rintro e v0 ⟨rfl, J0⟩
  go_wp2_with fail
  refine (sees_b ⟨#[102, 111, 114]⟩ S1.out J0).mono ?_
  rintro e v1 ⟨rfl, J1⟩
  go_wp2_with fail
  refine (sees_b ⟨#[119, 104, 105, 108, 101]⟩ S2.out J1).mono ?_
  rintro e v2 ⟨rfl, J2⟩
  go_wp2_with fail
  refine (sees_b ⟨#[105, 110]⟩ S3.out J2).mono ?_
  rintro e v3 ⟨rfl, J3⟩
  have hlt := (PP.sees_err E S3.out).2
  have herr := (PP.sees_err E S3.out).1
  have cb := J3.ps.cells.2.1
  have fb := J3.ps.frozen 1
  have HA := Lib.hid (J3.adv hlt)
  clear J0 J1 J2 J3 herr
  go_wp2_with fail
  refine (tree_inv HA.out (place_all _ _ HA.out.gx HA.out.ps)).mono ?_
  rintro e w3 ⟨k3, num3, nm3, A3, c3, kids3, σ3, rfl, I3, ⟨m3, hr3⟩, hn3⟩
  have l3 : σ.next + 1 ≤ σ3.next := hn3
  have HT := Lib.hid (transfer_inv 44 I3 k3 num3 nm3 A3 c3 kids3 (by simp))
  have HFIN := Lib.hid (show PP.statement E (m3 + 1) σ = some (PP.transfer E 44 (.node k3 num3 nm3 kids3) σ3) by rw [PP.statement]; simp only [S0.out, S1.out, S2.out, S3.out, Bool.false_eq_true, if_false, if_true]; rw [hr3]; rfl)
  have hnn : σ.next ≤ (PP.transfer E 44 (.node k3 num3 nm3 kids3) σ3).1.next := by have := (PP.le_transfer E 44 (.node k3 num3 nm3 kids3) σ3).1; omega
  clear I3 HA cb fb hr3 hn3
  go_wp2_with fail
  refine HT.out.mono ?_
  rintro e w5 ⟨A5, c5, rfl, I5⟩
  obtain ⟨⟨n0, n1, n2, n3⟩, g0, g1, g2, g3⟩ := I5.b0.four
  obtain ⟨⟨r0, r1, r2, r3⟩, q0, q1, q2, q3⟩ := I5.b1.four
  have HQ := Lib.hid (fun v0 v1 v2 v3 => (I5.st0 (.int .u8 44) (.int .i64 (PP.numP E (PP.require E σ3 [44]) 0 7).2) (.string ⟨#[]⟩) (.slice A5 1 c5)).st1 v0 v1 v2 v3)
  clear HT I5
  clear HHS
  go_wp2_with fail
  refine bodyPost_ret (node_result rfl rfl (HQ.out _ _ _ _).b1) rfl ?_
  exact (HQ.out _ _ _ _).done (A := A5) (kids := [.node k3 num3 nm3 kids3]) (k := 44) (num := (PP.numP E (PP.require E σ3 [44]) 0 7).2) (nm := []) (c := c5) (by simp) ⟨_, HFIN.out⟩ hnn
theorem stmt_out (w : World) (hg : Gx w b X) (h : PS w b X E σ) (HS : ∀ σ', σ.next < σ'.next → StmtOk b X E σ') (s0 : PP.sees E σ [105, 102] = false) (s1 : PP.sees E σ [102, 111, 114] = false) (s2 : PP.sees E σ [119, 104, 105, 108, 101] = false) (s3 : PP.sees E σ [105, 110] = false) (s4 : PP.sees E σ [111, 117, 116] = true) :
    Calls Tryz.prog 61 #[.pointer (some ⟨b, 0, none⟩)] w (TreeEnd b X E σ w fun σ' t => ∃ n, PP.statement E n σ = some (σ', t)) := by
  have hbl := h.lt
  have hlen := h.len
  have hpn := h.next
  have I0 := ((Inv.start (Z := NoZ) h hg (fun h => h)).alloc #[.int .u8 0, .int .i64 0, .string ⟨#[]⟩, .slice none 0 0] 36 rfl).alloc #[.int .u8 0, .int .i64 0, .string ⟨#[]⟩, .slice none 0 0] 36 (n := w.heap.size + 1) (by simp)
  have HI0 := Lib.hid I0
  have HHS := Lib.hid HS
  have S0 := Lib.hid s0
  have S1 := Lib.hid s1
  have S2 := Lib.hid s2
  have S3 := Lib.hid s3
  have S4 := Lib.hid s4
  clear I0 h hg HS s0 s1 s2 s3 s4
  go_enter Tryz.func61, Tryz.ntmps61
  go_wp2_with fail
  refine (sees_b ⟨#[105, 102]⟩ S0.out HI0.out).mono ?_
  rintro e v0 ⟨rfl, J0⟩
  go_wp2_with fail
  refine (sees_b ⟨#[102, 111, 114]⟩ S1.out J0).mono ?_
  rintro e v1 ⟨rfl, J1⟩
  go_wp2_with fail
  refine (sees_b ⟨#[119, 104, 105, 108, 101]⟩ S2.out J1).mono ?_
  rintro e v2 ⟨rfl, J2⟩
  go_wp2_with fail
  refine (sees_b ⟨#[105, 110]⟩ S3.out J2).mono ?_
  rintro e v3 ⟨rfl, J3⟩
  go_wp2_with fail
  refine (sees_b ⟨#[111, 117, 116]⟩ S4.out J3).mono ?_
  rintro e v4 ⟨rfl, J4⟩
  have hlt := (PP.sees_err E S4.out).2
  have herr := (PP.sees_err E S4.out).1
  have cb := J4.ps.cells.2.1
  have fb := J4.ps.frozen 1
  have HA := Lib.hid (J4.adv hlt)
  clear J0 J1 J2 J3 J4 herr
  go_wp2_with fail
  refine (tree_inv HA.out (expression_any _ _ HA.out.gx HA.out.ps)).mono ?_
  rintro e w3 ⟨k3, num3, nm3, A3, c3, kids3, σ3, rfl, I3, ⟨m3, hr3⟩, hn3⟩
  have l3 : σ.next + 1 ≤ σ3.next := hn3
  have HT := Lib.hid (transfer_inv 45 I3 k3 num3 nm3 A3 c3 kids3 (by simp))
  have HFIN := Lib.hid (show PP.statement E (m3 + 1) σ = some (PP.transfer E 45 (.node k3 num3 nm3 kids3) σ3) by rw [PP.statement]; simp only [S0.out, S1.out, S2.out, S3.out, S4.out, Bool.false_eq_true, if_false, if_true]; rw [hr3]; rfl)
  have hnn : σ.next ≤ (PP.transfer E 45 (.node k3 num3 nm3 kids3) σ3).1.next := by have := (PP.le_transfer E 45 (.node k3 num3 nm3 kids3) σ3).1; omega
  clear I3 HA cb fb hr3 hn3
  go_wp2_with fail
  refine HT.out.mono ?_
  rintro e w5 ⟨A5, c5, rfl, I5⟩
  obtain ⟨⟨n0, n1, n2, n3⟩, g0, g1, g2, g3⟩ := I5.b0.four
  obtain ⟨⟨r0, r1, r2, r3⟩, q0, q1, q2, q3⟩ := I5.b1.four
  have HQ := Lib.hid (fun v0 v1 v2 v3 => (I5.st0 (.int .u8 45) (.int .i64 (PP.numP E (PP.require E σ3 [44]) 0 7).2) (.string ⟨#[]⟩) (.slice A5 1 c5)).st1 v0 v1 v2 v3)
  clear HT I5
  clear HHS
  go_wp2_with fail
  refine bodyPost_ret (node_result rfl rfl (HQ.out _ _ _ _).b1) rfl ?_
  exact (HQ.out _ _ _ _).done (A := A5) (kids := [.node k3 num3 nm3 kids3]) (k := 45) (num := (PP.numP E (PP.require E σ3 [44]) 0 7).2) (nm := []) (c := c5) (by simp) ⟨_, HFIN.out⟩ hnn
theorem stmt_assign (w : World) (hg : Gx w b X) (h : PS w b X E σ) (HS : ∀ σ', σ.next < σ'.next → StmtOk b X E σ') (s0 : PP.sees E σ [105, 102] = false) (s1 : PP.sees E σ [102, 111, 114] = false) (s2 : PP.sees E σ [119, 104, 105, 108, 101] = false) (s3 : PP.sees E σ [105, 110] = false) (s4 : PP.sees E σ [111, 117, 116] = false) (s5 : PP.sees E σ [108, 111, 99, 107] = false) :
    Calls Tryz.prog 61 #[.pointer (some ⟨b, 0, none⟩)] w (TreeEnd b X E σ w fun σ' t => ∃ n, PP.statement E n σ = some (σ', t)) := by
  have hbl := h.lt
  have hlen := h.len
  have hpn := h.next
  have I0 := ((Inv.start (Z := NoZ) h hg (fun h => h)).alloc #[.int .u8 0, .int .i64 0, .string ⟨#[]⟩, .slice none 0 0] 36 rfl).alloc #[.int .u8 0, .int .i64 0, .string ⟨#[]⟩, .slice none 0 0] 36 (n := w.heap.size + 1) (by simp)
  have HI0 := Lib.hid I0
  have HHS := Lib.hid HS
  have S0 := Lib.hid s0
  have S1 := Lib.hid s1
  have S2 := Lib.hid s2
  have S3 := Lib.hid s3
  have S4 := Lib.hid s4
  have S5 := Lib.hid s5
  clear I0 h hg HS s0 s1 s2 s3 s4 s5
  go_enter Tryz.func61, Tryz.ntmps61
  go_wp2_with fail
  refine (sees_b ⟨#[105, 102]⟩ S0.out HI0.out).mono ?_
  rintro e v0 ⟨rfl, J0⟩
  go_wp2_with fail
  refine (sees_b ⟨#[102, 111, 114]⟩ S1.out J0).mono ?_
  rintro e v1 ⟨rfl, J1⟩
  go_wp2_with fail
  refine (sees_b ⟨#[119, 104, 105, 108, 101]⟩ S2.out J1).mono ?_
  rintro e v2 ⟨rfl, J2⟩
  go_wp2_with fail
  refine (sees_b ⟨#[105, 110]⟩ S3.out J2).mono ?_
  rintro e v3 ⟨rfl, J3⟩
  go_wp2_with fail
  refine (sees_b ⟨#[111, 117, 116]⟩ S4.out J3).mono ?_
  rintro e v4 ⟨rfl, J4⟩
  go_wp2_with fail
  refine (sees_b ⟨#[108, 111, 99, 107]⟩ S5.out J4).mono ?_
  rintro e v5 ⟨rfl, J5⟩
  have HA := Lib.hid J5
  clear J0 J1 J2 J3 J4 J5
  go_wp2_with fail
  refine (tree_inv HA.out (place_all _ _ HA.out.gx HA.out.ps)).mono ?_
  rintro e w3 ⟨k3, num3, nm3, A3, c3, kids3, σ3, rfl, I3, ⟨m3, hr3⟩, hn3⟩
  have HR3 := Lib.hid hr3
  have l3 : σ.next ≤ σ3.next := hn3
  have HI4 := Lib.hid (I3.alloc #[.int .u8 (k3 : Int), .int .i64 num3, .string ⟨nm3.toArray⟩, .slice A3 kids3.length c3] 36 rfl)
  clear I3 HA hr3 hn3
  go_wp2_with fail
  refine (require_inv ⟨#[61]⟩ HI4.out).mono ?_
  rintro e w5 ⟨rfl, I5⟩
  have HI5 := Lib.hid I5
  clear I5 HI4
  obtain ⟨⟨x0, x1, x2, x3⟩, _, _, _, _⟩ := HI5.out.b0.four
  have HB7 := Lib.hid (tree_inv HI5.out (expression_any _ _ HI5.out.gx HI5.out.ps))
  have HB7d := Lib.hid (tree_inv HI5.out.drew (expression_any _ _ HI5.out.drew.gx HI5.out.drew.ps))
  go_wp2_with fail
  go_region_held3 (fun W => W.cell? ⟨w3.heap.size, 0, none⟩ = some (.int .u8 (k3 : Int)) ∧ W.cell? ⟨w3.heap.size, 1, none⟩ = some (.int .i64 num3) ∧ W.cell? ⟨w3.heap.size, 2, none⟩ = some (.string ⟨nm3.toArray⟩) ∧ W.cell? ⟨w3.heap.size, 3, none⟩ = some (.slice A3 kids3.length c3))
   (with_reducible first | exact HI5.out.b0.four.1 | exact HI5.out.drew.b0.four.1 | exact I8.b0.four.1 | exact (I8.more _).b0.four.1 | exact ((I8.st1 _ _ _ _).more _).b0.four.1)
   (first | (go_at_call 26; (first | (with_reducible refine HB7.out.mono ?_) | (with_reducible refine HB7d.out.mono ?_)); rintro e w8 ⟨k8, num8, nm8, A8, c8, kids8, σ8, rfl, I8, ⟨m8, hr8⟩, hn8⟩; obtain ⟨⟨z0, z1, z2, z3⟩, q0, q1, q2, q3⟩ := I8.b1.four; have hNlt := I8.b1.lt))
  have HFIN := Lib.hid (show PP.statement E (max m3 m8 + 1) σ = some (PP.require E σ8 [59], .node 40 0 [] [.node k3 num3 nm3 kids3, .node k8 num8 nm8 kids8]) by
    have e3 : PP.place E (max m3 m8) σ = some (σ3, .node k3 num3 nm3 kids3) := PP.place_le E (by omega) HR3.out
    have e8 : PP.binary E (max m3 m8) 0 (PP.require E σ3 [61]) = some (σ8, .node k8 num8 nm8 kids8) := PP.binary_le E (by omega) hr8
    generalize max m3 m8 = M at *
    rw [PP.statement]; simp only [S0.out, S1.out, S2.out, S3.out, S4.out, S5.out, Bool.false_eq_true, if_false]; rw [e3, Option.bind_some]; simp only []; rw [e8]; rfl)
  have hnn : σ.next ≤ (PP.require E σ8 [59]).next := by have h1 : (PP.require E σ3 [61]).next ≤ σ8.next := hn8; have h2 := (PP.le_require E σ3 [61]).1; have h3 := (PP.le_require E σ8 [59]).1; omega
  have HQ6 := Lib.hid ((I8.st1 (.int .u8 40) (.int .i64 0) (.string ⟨#[]⟩) (.slice (some ⟨w8.heap.size, 0, none⟩) 2 2)).kids2 (k := k3) (num := num3) (nm := nm3) (A := A3) (c := c3) (kids := kids3) (by simp) (k' := k8) (num' := num8) (nm' := nm8) (A' := A8) (c' := c8) (kids' := kids8) (by simp) (n := w8.heap.size) (by simp))
  clear I8 hr8 hn8 HB7 HB7d HI5 HR3 x0 x1 x2 x3
  go_wp2_with fail
  refine (require_inv ⟨#[59]⟩ HQ6.out).mono ?_
  rintro e w9 ⟨rfl, I9⟩
  obtain ⟨⟨a0, a1, a2, a3⟩, _, _, _, _⟩ := I9.b1.four
  obtain ⟨⟨r0, r1, r2, r3⟩, p0, p1, p2, p3⟩ := I9.b2.four
  have HQ := Lib.hid (fun v0 v1 v2 v3 => I9.st2 v0 v1 v2 v3)
  clear I9 HQ6
  clear HHS
  go_wp2_with fail
  refine bodyPost_ret (node_result rfl rfl (HQ.out _ _ _ _).b2) rfl ?_
  exact (HQ.out _ _ _ _).done (A := some ⟨w8.heap.size, 0, none⟩) (kids := [.node k3 num3 nm3 kids3, .node k8 num8 nm8 kids8]) (k := 40) (num := 0) (nm := []) (c := 2) (by simp) ⟨_, HFIN.out⟩ hnn
end

section
variable {b : Nat} {X : Loc} {E : PP.Env}
theorem statement_of {σ : PP.St} (w : World) (hg : Gx w b X) (h : PS w b X E σ) (HS : ∀ σ', σ.next < σ'.next → StmtOk b X E σ') :
    Calls Tryz.prog 61 #[.pointer (some ⟨b, 0, none⟩)] w (TreeEnd b X E σ w fun σ' t => ∃ n, PP.statement E n σ = some (σ', t)) := by
  cases s0 : PP.sees E σ [105, 102] with
  | true => exact stmt_if w hg h HS s0
  | false =>
  cases s1 : PP.sees E σ [102, 111, 114] with
  | true => exact stmt_for w hg h HS s0 s1
  | false =>
  cases s2 : PP.sees E σ [119, 104, 105, 108, 101] with
  | true => exact stmt_while w hg h HS s0 s1 s2
  | false =>
  cases s3 : PP.sees E σ [105, 110] with
  | true => exact stmt_in w hg h HS s0 s1 s2 s3
  | false =>
  cases s4 : PP.sees E σ [111, 117, 116] with
  | true => exact stmt_out w hg h HS s0 s1 s2 s3 s4
  | false =>
  cases s5 : PP.sees E σ [108, 111, 99, 107] with
  | true => exact stmt_lock w hg h HS s0 s1 s2 s3 s4 s5
  | false =>
  exact stmt_assign w hg h HS s0 s1 s2 s3 s4 s5
theorem stmt_upto (d : Nat) : ∀ σ : PP.St, E.ts.length - σ.next ≤ d → StmtOk b X E σ := by
  induction d using Nat.strongRecOn with
  | ind d ih =>
    intro σ hd W hg h
    refine statement_of W hg h (fun σ' hn W' hg' h' => ?_)
    have := h'.next
    exact ih (E.ts.length - σ'.next) (by omega) σ' (Nat.le_refl _) W' hg' h'
theorem statement_any (σ : PP.St) : StmtOk b X E σ := stmt_upto _ σ (Nat.le_refl _)
theorem statements_any {σ : PP.St} (w : World) (hg : Gx w b X) (h : PS w b X E σ) :
    Calls Tryz.prog 44 #[.pointer (some ⟨b, 0, none⟩)] w (SeqEnd b X E σ false w) := statements_of w hg h (fun σ' _ => statement_any σ')
end
end Go.Proofs.YtglaecalbamnkaaGreatDoor
/- The contracts of a tree's measures (written by wip/genmeas.py). -/
namespace Go.Proofs.YtglaecalbamnkaaGreatDoor
open Go.RowKit Go.Maps
open PP (Tree)

namespace PP
theorem sizeL_snoc (l : List Tree) (t : Tree) : sizeL (l ++ [t]) = sizeL l + t.size := by
  induction l with
  | nil => simp [sizeL]
  | cons a l ih => simp only [List.cons_append, sizeL, ih]; omega
theorem depthL_snoc (l : List Tree) (t : Tree) : depthL (l ++ [t]) = max (depthL l) t.depth := by
  induction l with
  | nil => simp [depthL]
  | cons a l ih => simp only [List.cons_append, depthL, ih]; omega
theorem nestL_snoc (l : List Tree) (t : Tree) : nestL (l ++ [t]) = max (nestL l) t.nest := by
  induction l with
  | nil => simp [nestL]
  | cons a l ih => simp only [List.cons_append, nestL, ih]; omega
theorem size_pos (t : Tree) : 1 ≤ t.size := by cases t; simp only [Tree.size]; omega
theorem len_sizeL (l : List Tree) : l.length ≤ sizeL l := by
  induction l with
  | nil => simp
  | cons a l ih => have := size_pos a; simp only [List.length_cons, sizeL]; omega
mutual
theorem depth_size : ∀ t : Tree, t.depth ≤ t.size
  | .node k num nm ks => by have := depthL_size ks; simp only [Tree.depth, Tree.size]; omega
theorem depthL_size : ∀ l : List Tree, depthL l ≤ sizeL l
  | [] => by simp [depthL]
  | t :: ts => by have := depth_size t; have := depthL_size ts; simp only [depthL, sizeL]; omega
end
mutual
theorem nest_size : ∀ t : Tree, t.nest ≤ t.size
  | .node k num nm ks => by have := nestL_size ks; simp only [Tree.nest, Tree.size]; split <;> omega
theorem nestL_size : ∀ l : List Tree, nestL l ≤ sizeL l
  | [] => by simp [nestL]
  | t :: ts => by have := nest_size t; have := nestL_size ts; simp only [nestL, sizeL]; omega
end
theorem sizeL_take (l : List Tree) (j : Nat) : sizeL (l.take j) ≤ sizeL l := by
  induction l generalizing j with
  | nil => simp
  | cons a l ih => cases j with
    | zero => simp [sizeL]
    | succ j => have := ih j; simp only [List.take_succ_cons, sizeL]; omega
theorem size_mem {l : List Tree} {t : Tree} (h : t ∈ l) : t.size ≤ sizeL l := by
  induction l with
  | nil => simp at h
  | cons a l ih => rcases List.mem_cons.1 h with rfl | h
                   · simp only [sizeL]; omega
                   · have := ih h; simp only [sizeL]; omega
end PP
theorem take_at {α : Type} {l : List α} {j : Nat} {x : α} (h : l[j]? = some x) : l.take (j + 1) = l.take j ++ [x] := by
  obtain ⟨hlt, rfl⟩ := List.getElem?_eq_some_iff.1 h
  exact List.take_succ_eq_append_getElem hlt

section
set_option maxHeartbeats 1000000
set_option maxRecDepth 100000
def DepthRel (kids : List Tree) (w0 : World) (d i : Value) (wr : World) : Prop := ∃ j : Nat, j ≤ kids.length ∧ i = .int .i64 (j : Int) ∧ d = .int .i64 ((PP.depthL (kids.take j) : Nat) : Int) ∧ Below w0.heap.size w0 wr
theorem depth_kids {w : World} {Z : Nat → Prop} {A : Option Addr} {kids : List Tree} (h : KidsC w Z A kids) : ∀ W, Keep Z w W → ∀ (k : Nat) (num : Int) (nm : List UInt8) (c : Nat), PP.sizeL kids ≤ 1000000 →
    Calls Tryz.prog 62 #[.agg #[.int .u8 (k : Int), .int .i64 num, .string ⟨nm.toArray⟩, .slice A kids.length c]] W fun e w' => e = .returned (.int .i64 ((Tree.node k num nm kids).depth : Int)) ∧ Below W.heap.size W w' := by
  induction h with
  | mk A kids g o K N S AA C KS hA hk hc hh ih =>
    intro W hkeep k num nm c hsz
    have hlen := PP.len_sizeL kids
    have HIH := Lib.hid ih
    have HKP := Lib.hid hkeep
    have HHK := Lib.hid hk
    have HHC := Lib.hid hc
    have HHA := Lib.hid hA
    clear ih hkeep hk hc hh hA
    generalize hM : ((Tree.node k num nm kids).depth : Int) = M
    have HM := Lib.hid hM
    clear hM
    generalize hw0 : W.alloc (.cells #[.int .u8 (k : Int), .int .i64 num, .string ⟨nm.toArray⟩, .slice A kids.length c] 36) = w0
    have hb0 : Below W.heap.size W w0 := by rw [← hw0]; exact (Below.refl _ _).alloc (Nat.le_refl _) _
    have hB : Blk w0 W.heap.size 36 #[.int .u8 (k : Int), .int .i64 num, .string ⟨nm.toArray⟩, .slice A kids.length c] := by rw [← hw0]; exact Blk.new _ _ _
    have HW0 := Lib.hid hw0
    clear hw0
    go_enter Tryz.func62, Tryz.ntmps62
    go_wp2_with fail
    rw [HW0.out]
    go_loopw [3, 9] (fun d i wr => DepthRel kids w0 d i wr) (fun _ i _ => kids.length - (intOf i).toNat)
    case atStart => exact ⟨0, Nat.zero_le _, rfl, by simp [PP.depthL], Below.refl _ _⟩
    case round =>
      obtain ⟨j, hj, rfl, rfl, hbr⟩ := hrel
      have hBr : Blk wr W.heap.size 36 #[.int .u8 (k : Int), .int .i64 num, .string ⟨nm.toArray⟩, .slice A kids.length c] := (hbr.block _ hB.lt).trans hB
      have hzt := PP.sizeL_take kids j
      have hmt : PP.depthL (kids.take j) ≤ PP.sizeL (kids.take j) := PP.depthL_size _
      by_cases hlt : j < kids.length
      · have hA' := HHA.out (by intro e; rw [e] at hlt; simp at hlt)
        obtain ⟨hA1, hA2, hA3⟩ := hA'
        obtain ⟨c0, c1, c2, c3⟩ := HHC.out j hlt
        have hkj := HHK.out j hlt
        have hkp : Keep Z w wr := HKP.out.trans ⟨Nat.le_trans hb0.size hbr.size, fun g _ hg => (hbr.block g (Nat.lt_of_lt_of_le hg hb0.size)).trans (hb0.block g hg)⟩
        have hbg := hkp.2 g hA2 hA3
        have d0 := (World.cell?_of_block (a := ⟨g, o + j * 4, none⟩) hbg).trans c0
        have d1 := (World.cell?_of_block (a := ⟨g, o + j * 4 + 1, none⟩) hbg).trans c1
        have d2 := (World.cell?_of_block (a := ⟨g, o + j * 4 + 2, none⟩) hbg).trans c2
        have d3 := (World.cell?_of_block (a := ⟨g, o + j * 4 + 3, none⟩) hbg).trans c3
        have hjs := PP.size_mem (List.mem_of_getElem? hkj)
        have hks : PP.sizeL (KS j) ≤ 1000000 := by simp only [PP.Tree.size] at hjs; omega
        have hcall := HIH.out j hlt (wr.alloc (.cells #[.int .u8 (K j : Int), .int .i64 (N j), .string ⟨(S j).toArray⟩, .slice (AA j) (KS j).length (C j)] 36)) (hkp.alloc _) (K j) (N j) (S j) (C j) hks
        have hdm : (Tree.node (K j) (N j) (S j) (KS j)).depth ≤ 1000001 := by have := PP.depth_size (Tree.node (K j) (N j) (S j) (KS j)); simp only [PP.Tree.size] at hjs this; omega
        have hst : PP.depthL (kids.take (j + 1)) = max (PP.depthL (kids.take j)) (Tree.node (K j) (N j) (S j) (KS j)).depth := by rw [take_at hkj, PP.depthL_snoc]
        generalize (Tree.node (K j) (N j) (S j) (KS j)).depth = D at *
        have HST := Lib.hid hst
        have HC := Lib.hid hcall
        subst hA1
        have p1 : (0 : Int) ≤ (j : Int) := by omega
        have p2 : (j : Int) < (kids.length : Int) := by omega
        clear hcall hst hkp hbg c0 c1 c2 c3 hkj hks hjs hA2 hA3
        generalize PP.depthL (kids.take j) = T at *
        go_wp2_with fail
        refine HC.out.mono ?_
        rintro e w2 ⟨rfl, hb2⟩
        have hb3 : Below w0.heap.size w0 w2 := hbr.trans ((((Below.refl wr.heap.size wr).alloc (Nat.le_refl _) _).trans (hb2.mono (by simp))).mono hbr.size)
        clear hb2 d0 d1 d2 d3
        go_wp2_with fail
        go_roundw
        case rel => exact ⟨j + 1, by omega, by go_num, by rw [HST.out]; go_num, hb3⟩
        case measure => simp [intOf]; omega
      · have hj' : j = kids.length := by omega
        subst hj'
        rw [List.take_length] at *
        generalize hTT : PP.depthL kids = T at *
        have HTT := Lib.hid hTT
        clear hTT
        go_wp2_with fail
        go_ret
        refine ⟨?_, hb0.trans (hbr.mono hb0.size)⟩
        rw [← HM.out]; simp only [PP.Tree.depth, HTT.out]; rfl

def SizeRel (kids : List Tree) (w0 : World) (d i : Value) (wr : World) : Prop := ∃ j : Nat, j ≤ kids.length ∧ i = .int .i64 (j : Int) ∧ d = .int .i64 ((1 + PP.sizeL (kids.take j) : Nat) : Int) ∧ Below w0.heap.size w0 wr
theorem size_kids {w : World} {Z : Nat → Prop} {A : Option Addr} {kids : List Tree} (h : KidsC w Z A kids) : ∀ W, Keep Z w W → ∀ (k : Nat) (num : Int) (nm : List UInt8) (c : Nat), PP.sizeL kids ≤ 1000000 →
    Calls Tryz.prog 63 #[.agg #[.int .u8 (k : Int), .int .i64 num, .string ⟨nm.toArray⟩, .slice A kids.length c]] W fun e w' => e = .returned (.int .i64 ((Tree.node k num nm kids).size : Int)) ∧ Below W.heap.size W w' := by
  induction h with
  | mk A kids g o K N S AA C KS hA hk hc hh ih =>
    intro W hkeep k num nm c hsz
    have hlen := PP.len_sizeL kids
    have HIH := Lib.hid ih
    have HKP := Lib.hid hkeep
    have HHK := Lib.hid hk
    have HHC := Lib.hid hc
    have HHA := Lib.hid hA
    clear ih hkeep hk hc hh hA
    generalize hM : ((Tree.node k num nm kids).size : Int) = M
    have HM := Lib.hid hM
    clear hM
    generalize hw0 : W.alloc (.cells #[.int .u8 (k : Int), .int .i64 num, .string ⟨nm.toArray⟩, .slice A kids.length c] 36) = w0
    have hb0 : Below W.heap.size W w0 := by rw [← hw0]; exact (Below.refl _ _).alloc (Nat.le_refl _) _
    have hB : Blk w0 W.heap.size 36 #[.int .u8 (k : Int), .int .i64 num, .string ⟨nm.toArray⟩, .slice A kids.length c] := by rw [← hw0]; exact Blk.new _ _ _
    have HW0 := Lib.hid hw0
    clear hw0
    go_enter Tryz.func63, Tryz.ntmps63
    go_wp2_with fail
    rw [HW0.out]
    go_loopw [3, 9] (fun d i wr => SizeRel kids w0 d i wr) (fun _ i _ => kids.length - (intOf i).toNat)
    case atStart => exact ⟨0, Nat.zero_le _, rfl, by simp [PP.sizeL], Below.refl _ _⟩
    case round =>
      obtain ⟨j, hj, rfl, rfl, hbr⟩ := hrel
      have hBr : Blk wr W.heap.size 36 #[.int .u8 (k : Int), .int .i64 num, .string ⟨nm.toArray⟩, .slice A kids.length c] := (hbr.block _ hB.lt).trans hB
      have hzt := PP.sizeL_take kids j
      have hmt : PP.sizeL (kids.take j) ≤ PP.sizeL (kids.take j) := Nat.le_refl _
      by_cases hlt : j < kids.length
      · have hA' := HHA.out (by intro e; rw [e] at hlt; simp at hlt)
        obtain ⟨hA1, hA2, hA3⟩ := hA'
        obtain ⟨c0, c1, c2, c3⟩ := HHC.out j hlt
        have hkj := HHK.out j hlt
        have hkp : Keep Z w wr := HKP.out.trans ⟨Nat.le_trans hb0.size hbr.size, fun g _ hg => (hbr.block g (Nat.lt_of_lt_of_le hg hb0.size)).trans (hb0.block g hg)⟩
        have hbg := hkp.2 g hA2 hA3
        have d0 := (World.cell?_of_block (a := ⟨g, o + j * 4, none⟩) hbg).trans c0
        have d1 := (World.cell?_of_block (a := ⟨g, o + j * 4 + 1, none⟩) hbg).trans c1
        have d2 := (World.cell?_of_block (a := ⟨g, o + j * 4 + 2, none⟩) hbg).trans c2
        have d3 := (World.cell?_of_block (a := ⟨g, o + j * 4 + 3, none⟩) hbg).trans c3
        have hjs := PP.size_mem (List.mem_of_getElem? hkj)
        have hks : PP.sizeL (KS j) ≤ 1000000 := by simp only [PP.Tree.size] at hjs; omega
        have hcall := HIH.out j hlt (wr.alloc (.cells #[.int .u8 (K j : Int), .int .i64 (N j), .string ⟨(S j).toArray⟩, .slice (AA j) (KS j).length (C j)] 36)) (hkp.alloc _) (K j) (N j) (S j) (C j) hks
        have hdm : (Tree.node (K j) (N j) (S j) (KS j)).size ≤ 1000001 := by simp only [PP.Tree.size] at hjs ⊢; omega
        have hst : PP.sizeL (kids.take (j + 1)) = PP.sizeL (kids.take j) + (Tree.node (K j) (N j) (S j) (KS j)).size := by rw [take_at hkj, PP.sizeL_snoc]
        generalize (Tree.node (K j) (N j) (S j) (KS j)).size = D at *
        have HST := Lib.hid hst
        have HC := Lib.hid hcall
        subst hA1
        have p1 : (0 : Int) ≤ (j : Int) := by omega
        have p2 : (j : Int) < (kids.length : Int) := by omega
        clear hcall hst hkp hbg c0 c1 c2 c3 hkj hks hjs hA2 hA3
        generalize PP.sizeL (kids.take j) = T at *
        go_wp2_with fail
        refine HC.out.mono ?_
        rintro e w2 ⟨rfl, hb2⟩
        have hb3 : Below w0.heap.size w0 w2 := hbr.trans ((((Below.refl wr.heap.size wr).alloc (Nat.le_refl _) _).trans (hb2.mono (by simp))).mono hbr.size)
        clear hb2 d0 d1 d2 d3
        go_wp2_with fail
        go_roundw
        case rel => exact ⟨j + 1, by omega, by go_num, by rw [HST.out]; go_num, hb3⟩
        case measure => simp [intOf]; omega
      · have hj' : j = kids.length := by omega
        subst hj'
        rw [List.take_length] at *
        generalize hTT : PP.sizeL kids = T at *
        have HTT := Lib.hid hTT
        clear hTT
        go_wp2_with fail
        go_ret
        refine ⟨?_, hb0.trans (hbr.mono hb0.size)⟩
        rw [← HM.out]; simp only [PP.Tree.size, HTT.out]; rfl

def NestRel (kids : List Tree) (w0 : World) (d i : Value) (wr : World) : Prop := ∃ j : Nat, j ≤ kids.length ∧ i = .int .i64 (j : Int) ∧ d = .int .i64 ((PP.nestL (kids.take j) : Nat) : Int) ∧ Below w0.heap.size w0 wr
theorem nest_kids {w : World} {Z : Nat → Prop} {A : Option Addr} {kids : List Tree} (h : KidsC w Z A kids) : ∀ W, Keep Z w W → ∀ (k : Nat) (num : Int) (nm : List UInt8) (c : Nat), PP.sizeL kids ≤ 1000000 →
    Calls Tryz.prog 64 #[.agg #[.int .u8 (k : Int), .int .i64 num, .string ⟨nm.toArray⟩, .slice A kids.length c]] W fun e w' => e = .returned (.int .i64 ((Tree.node k num nm kids).nest : Int)) ∧ Below W.heap.size W w' := by
  induction h with
  | mk A kids g o K N S AA C KS hA hk hc hh ih =>
    intro W hkeep k num nm c hsz
    have hlen := PP.len_sizeL kids
    have HIH := Lib.hid ih
    have HKP := Lib.hid hkeep
    have HHK := Lib.hid hk
    have HHC := Lib.hid hc
    have HHA := Lib.hid hA
    clear ih hkeep hk hc hh hA
    generalize hM : ((Tree.node k num nm kids).nest : Int) = M
    have HM := Lib.hid hM
    clear hM
    generalize hw0 : W.alloc (.cells #[.int .u8 (k : Int), .int .i64 num, .string ⟨nm.toArray⟩, .slice A kids.length c] 36) = w0
    have hb0 : Below W.heap.size W w0 := by rw [← hw0]; exact (Below.refl _ _).alloc (Nat.le_refl _) _
    have hB : Blk w0 W.heap.size 36 #[.int .u8 (k : Int), .int .i64 num, .string ⟨nm.toArray⟩, .slice A kids.length c] := by rw [← hw0]; exact Blk.new _ _ _
    have HW0 := Lib.hid hw0
    clear hw0
    go_enter Tryz.func64, Tryz.ntmps64
    go_wp2_with fail
    rw [HW0.out]
    go_loopw [3, 9] (fun d i wr => NestRel kids w0 d i wr) (fun _ i _ => kids.length - (intOf i).toNat)
    case atStart => exact ⟨0, Nat.zero_le _, rfl, by simp [PP.nestL], Below.refl _ _⟩
    case round =>
      obtain ⟨j, hj, rfl, rfl, hbr⟩ := hrel
      have hBr : Blk wr W.heap.size 36 #[.int .u8 (k : Int), .int .i64 num, .string ⟨nm.toArray⟩, .slice A kids.length c] := (hbr.block _ hB.lt).trans hB
      have hzt := PP.sizeL_take kids j
      have hmt : PP.nestL (kids.take j) ≤ PP.sizeL (kids.take j) := PP.nestL_size _
      by_cases hlt : j < kids.length
      · have hA' := HHA.out (by intro e; rw [e] at hlt; simp at hlt)
        obtain ⟨hA1, hA2, hA3⟩ := hA'
        obtain ⟨c0, c1, c2, c3⟩ := HHC.out j hlt
        have hkj := HHK.out j hlt
        have hkp : Keep Z w wr := HKP.out.trans ⟨Nat.le_trans hb0.size hbr.size, fun g _ hg => (hbr.block g (Nat.lt_of_lt_of_le hg hb0.size)).trans (hb0.block g hg)⟩
        have hbg := hkp.2 g hA2 hA3
        have d0 := (World.cell?_of_block (a := ⟨g, o + j * 4, none⟩) hbg).trans c0
        have d1 := (World.cell?_of_block (a := ⟨g, o + j * 4 + 1, none⟩) hbg).trans c1
        have d2 := (World.cell?_of_block (a := ⟨g, o + j * 4 + 2, none⟩) hbg).trans c2
        have d3 := (World.cell?_of_block (a := ⟨g, o + j * 4 + 3, none⟩) hbg).trans c3
        have hjs := PP.size_mem (List.mem_of_getElem? hkj)
        have hks : PP.sizeL (KS j) ≤ 1000000 := by simp only [PP.Tree.size] at hjs; omega
        have hcall := HIH.out j hlt (wr.alloc (.cells #[.int .u8 (K j : Int), .int .i64 (N j), .string ⟨(S j).toArray⟩, .slice (AA j) (KS j).length (C j)] 36)) (hkp.alloc _) (K j) (N j) (S j) (C j) hks
        have hdm : (Tree.node (K j) (N j) (S j) (KS j)).nest ≤ 1000001 := by have := PP.nest_size (Tree.node (K j) (N j) (S j) (KS j)); simp only [PP.Tree.size] at hjs this; omega
        have hst : PP.nestL (kids.take (j + 1)) = max (PP.nestL (kids.take j)) (Tree.node (K j) (N j) (S j) (KS j)).nest := by rw [take_at hkj, PP.nestL_snoc]
        generalize (Tree.node (K j) (N j) (S j) (KS j)).nest = D at *
        have HST := Lib.hid hst
        have HC := Lib.hid hcall
        subst hA1
        have p1 : (0 : Int) ≤ (j : Int) := by omega
        have p2 : (j : Int) < (kids.length : Int) := by omega
        clear hcall hst hkp hbg c0 c1 c2 c3 hkj hks hjs hA2 hA3
        generalize PP.nestL (kids.take j) = T at *
        go_wp2_with fail
        refine HC.out.mono ?_
        rintro e w2 ⟨rfl, hb2⟩
        have hb3 : Below w0.heap.size w0 w2 := hbr.trans ((((Below.refl wr.heap.size wr).alloc (Nat.le_refl _) _).trans (hb2.mono (by simp))).mono hbr.size)
        clear hb2 d0 d1 d2 d3
        go_wp2_with fail
        go_roundw
        case rel => exact ⟨j + 1, by omega, by go_num, by rw [HST.out]; go_num, hb3⟩
        case measure => simp [intOf]; omega
      · have hj' : j = kids.length := by omega
        subst hj'
        rw [List.take_length] at *
        generalize hTT : PP.nestL kids = T at *
        have HTT := Lib.hid hTT
        clear hTT
        obtain ⟨⟨b0, _, _, _⟩, _, _, _, _⟩ := hBr.four
        by_cases h1 : k = 42
        · have e1 : ((k : Int) == 42) = true := by simp [h1]
          have HK1 := Lib.hid h1
          clear h1
          go_wp2_with fail
          go_ret
          refine ⟨?_, hb0.trans (hbr.mono hb0.size)⟩
          rw [← HM.out]; simp only [PP.Tree.nest, HTT.out, HK1.out]; simp
        · have e1 : ((k : Int) == 42) = false := beq_eq_false_iff_ne.2 (by omega)
          by_cases h2 : k = 43
          · have e2 : ((k : Int) == 43) = true := by simp [h2]
            have HK2 := Lib.hid h2
            clear h1 h2
            go_wp2_with fail
            go_ret
            refine ⟨?_, hb0.trans (hbr.mono hb0.size)⟩
            rw [← HM.out]; simp only [PP.Tree.nest, HTT.out, HK2.out]; simp
          · have e2 : ((k : Int) == 43) = false := beq_eq_false_iff_ne.2 (by omega)
            have HK1 := Lib.hid h1
            have HK2 := Lib.hid h2
            clear h1 h2
            go_wp2_with fail
            go_ret
            refine ⟨?_, hb0.trans (hbr.mono hb0.size)⟩
            rw [← HM.out]; simp only [PP.Tree.nest, HTT.out, HK1.out, HK2.out]; simp

end
end Go.Proofs.YtglaecalbamnkaaGreatDoor
/- The contracts of the parser's limit, array, variable and begins. -/
namespace Go.Proofs.YtglaecalbamnkaaGreatDoor
open Go.RowKit Go.Maps
open PP (Tree)

section
set_option maxHeartbeats 1000000
set_option maxRecDepth 100000
variable {w0 : World} {Z : Nat → Prop} {b : Nat} {X : Loc} {E : PP.Env} {σ : PP.St} {bl : List OwnB} {ks : List (Option Addr × List Tree)} {W : World}
/-- A call that makes memory alone. -/
theorem Inv.below {W' : World} (h : Inv w0 Z b X E σ bl ks W) (hb : Below W.heap.size W W') : Inv w0 Z b X E σ bl ks W' := h.call (h.ps.below hb) (Fr.of_below hb)
theorem fail_inv (o e : Nat) (h : Inv w0 Z b X E σ bl ks W) :
    Calls Tryz.prog 34 #[.pointer (some ⟨b, 0, none⟩), .int .i64 (o : Int), .int .i64 (e : Int)] W fun r w' => r = .returned (.tuple #[]) ∧ Inv w0 Z b X E (PP.fail σ o e) bl ks w' :=
  (fail_any o e W h.ps).mono fun _ _ ⟨h1, h2, h3⟩ => ⟨h1, h.call h2 h3⟩
theorem here_inv (h : Inv w0 Z b X E σ bl ks W) :
    Calls Tryz.prog 35 #[.pointer (some ⟨b, 0, none⟩)] W fun r w' => r = .returned (.int .i64 (PP.here E σ : Int)) ∧ Inv w0 Z b X E σ bl ks w' :=
  (here_any W h.ps).mono fun _ _ ⟨h1, n, h2⟩ => ⟨h1, by subst h2; exact h.drewN n⟩
theorem more_inv {t : Bool} (ht : PP.more E σ = t) (h : Inv w0 Z b X E σ bl ks W) :
    Calls Tryz.prog 15 #[.pointer (some ⟨b, 0, none⟩)] W fun r w' => r = .returned (.bool t) ∧ Inv w0 Z b X E σ bl ks w' :=
  (more_any W h.ps).mono fun _ _ ⟨h1, n, h2⟩ => ⟨by rw [h1, ht], by subst h2; exact h.drewN n⟩
theorem reject_inv (h : Inv w0 Z b X E σ bl ks W) :
    Calls Tryz.prog 16 #[.pointer (some ⟨b, 0, none⟩)] W fun r w' => r = .returned (.tuple #[]) ∧ Inv w0 Z b X E (PP.reject E σ) bl ks w' :=
  (reject_any W h.ps).mono fun _ _ ⟨h1, h2, h3⟩ => ⟨h1, h.call h2 h3⟩
theorem limit_inv (h : Inv w0 Z b X E σ bl ks W) (o k : Nat) (num : Int) (nm : List UInt8) (A : Option Addr) (c : Nat) (kids : List Tree) (hm : (A, kids) ∈ ks) (hs : σ.err = 0 → PP.sizeL kids ≤ 1000000) :
    Calls Tryz.prog 45 #[.pointer (some ⟨b, 0, none⟩), .agg #[.int .u8 (k : Int), .int .i64 num, .string ⟨nm.toArray⟩, .slice A kids.length c], .int .i64 (o : Int)] W fun r w' =>
      r = .returned (.tuple #[]) ∧ Inv w0 Z b X E (PP.limitP (.node k num nm kids) o σ) bl ks w' := by
  generalize hT : PP.limitP (.node k num nm kids) o σ = T at *
  have I1 := h.alloc #[.int .u8 (k : Int), .int .i64 num, .string ⟨nm.toArray⟩, .slice A kids.length c] 36 rfl
  have c5 := I1.ps.cells.2.2.2.2.2
  by_cases herr : σ.err = 0
  · have e1 : ((σ.err : Int) != 0) = false := by simp [herr]
    have hz := hs herr
    have hms := fun W' (hb : Below (W.alloc (.cells #[.int .u8 (k : Int), .int .i64 num, .string ⟨nm.toArray⟩, .slice A kids.length c] 36)).heap.size (W.alloc (.cells #[.int .u8 (k : Int), .int .i64 num, .string ⟨nm.toArray⟩, .slice A kids.length c] 36)) W') => size_kids ((I1.below hb).ks _ hm) W' (Keep.refl _ _) k num nm c hz
    have hmn := fun W' (hb : Below (W.alloc (.cells #[.int .u8 (k : Int), .int .i64 num, .string ⟨nm.toArray⟩, .slice A kids.length c] 36)).heap.size (W.alloc (.cells #[.int .u8 (k : Int), .int .i64 num, .string ⟨nm.toArray⟩, .slice A kids.length c] 36)) W') => nest_kids ((I1.below hb).ks _ hm) W' (Keep.refl _ _) k num nm c hz
    have hmd := depth_kids (I1.ks _ hm) _ (Keep.refl _ _) k num nm c hz
    have hTT : T = if PP.large (.node k num nm kids) then PP.fail σ o 5 else σ := by rw [← hT]; unfold PP.limitP; rw [if_pos herr]
    unfold PP.large at hTT
    generalize (Tree.node k num nm kids).depth = D at *
    generalize (Tree.node k num nm kids).size = Q at *
    generalize (Tree.node k num nm kids).nest = M at *
    have HTT := Lib.hid hTT
    have HI1 := Lib.hid I1
    have HD := Lib.hid hmd
    have HS := Lib.hid hms
    have HN := Lib.hid hmn
    clear hTT hT I1 hmd hms hmn h hm hs herr hz
    by_cases d1 : 16 < D
    · have x1 : decide ((16 : Int) < (D : Int)) = true := by simp; omega
      have x2 : decide (16 < D) = true := by simp; omega
      go_enter Tryz.func45, Tryz.ntmps45
      go_wp2_with fail
      refine HD.out.mono ?_
      rintro e v1 ⟨rfl, hb1⟩
      have HF := Lib.hid (fail_inv o 5 (HI1.out.below hb1))
      clear hb1
      go_wp2_with fail
      refine HF.out.mono ?_
      rintro e v2 ⟨rfl, I2⟩
      have HI2 := Lib.hid I2.drop
      clear I2
      go_wp2_with fail
      go_end0
      refine ⟨rfl, ?_⟩
      rw [HTT.out, if_pos (by simp; omega)]
      exact HI2.out
    · have x1 : decide ((16 : Int) < (D : Int)) = false := by simp; omega
      have x2 : decide (16 < D) = false := by simp; omega
      by_cases d2 : 400 < Q
      · have y1 : decide ((400 : Int) < (Q : Int)) = true := by simp; omega
        have y2 : decide (400 < Q) = true := by simp; omega
        go_enter Tryz.func45, Tryz.ntmps45
        go_wp2_with fail
        refine HD.out.mono ?_
        rintro e v1 ⟨rfl, hb1⟩
        have Hb1 := Lib.hid hb1
        obtain ⟨⟨z0, z1, z2, z3⟩, _, _, _, _⟩ := (HI1.out.below hb1).b0.four
        clear hb1
        go_wp2_with fail
        refine (HS.out _ Hb1.out).mono ?_
        rintro e v2 ⟨rfl, hb2⟩
        have HF := Lib.hid (fail_inv o 5 ((HI1.out.below Hb1.out).below hb2))
        clear hb2 z0 z1 z2 z3
        go_wp2_with fail
        refine HF.out.mono ?_
        rintro e v3 ⟨rfl, I2⟩
        have HI2 := Lib.hid I2.drop
        clear I2
        go_wp2_with fail
        go_end0
        refine ⟨rfl, ?_⟩
        rw [HTT.out, if_pos (by simp; omega)]
        exact HI2.out
      · have y1 : decide ((400 : Int) < (Q : Int)) = false := by simp; omega
        have y2 : decide (400 < Q) = false := by simp; omega
        by_cases d3 : 4 < M
        · have q1 : decide ((4 : Int) < (M : Int)) = true := by simp; omega
          have q2 : decide (4 < M) = true := by simp; omega
          go_enter Tryz.func45, Tryz.ntmps45
          go_wp2_with fail
          refine HD.out.mono ?_
          rintro e v1 ⟨rfl, hb1⟩
          have Hb1 := Lib.hid hb1
          obtain ⟨⟨z0, z1, z2, z3⟩, _, _, _, _⟩ := (HI1.out.below hb1).b0.four
          clear hb1
          go_wp2_with fail
          refine (HS.out _ Hb1.out).mono ?_
          rintro e v2 ⟨rfl, hb2⟩
          have Hb2 := Lib.hid (Hb1.out.trans (hb2.mono Hb1.out.size))
          obtain ⟨⟨t0, t1, t2, t3⟩, _, _, _, _⟩ := ((HI1.out.below Hb1.out).below hb2).b0.four
          clear hb2 z0 z1 z2 z3
          go_wp2_with fail
          refine (HN.out _ Hb2.out).mono ?_
          rintro e v3 ⟨rfl, hb3⟩
          have HF := Lib.hid (fail_inv o 5 ((HI1.out.below Hb2.out).below hb3))
          clear hb3 t0 t1 t2 t3
          go_wp2_with fail
          refine HF.out.mono ?_
          rintro e v4 ⟨rfl, I2⟩
          have HI2 := Lib.hid I2.drop
          clear I2
          go_wp2_with fail
          go_end0
          refine ⟨rfl, ?_⟩
          rw [HTT.out, if_pos (by simp; omega)]
          exact HI2.out
        · have q1 : decide ((4 : Int) < (M : Int)) = false := by simp; omega
          have q2 : decide (4 < M) = false := by simp; omega
          go_enter Tryz.func45, Tryz.ntmps45
          go_wp2_with fail
          refine HD.out.mono ?_
          rintro e v1 ⟨rfl, hb1⟩
          have Hb1 := Lib.hid hb1
          obtain ⟨⟨z0, z1, z2, z3⟩, _, _, _, _⟩ := (HI1.out.below hb1).b0.four
          clear hb1
          go_wp2_with fail
          refine (HS.out _ Hb1.out).mono ?_
          rintro e v2 ⟨rfl, hb2⟩
          have Hb2 := Lib.hid (Hb1.out.trans (hb2.mono Hb1.out.size))
          obtain ⟨⟨t0, t1, t2, t3⟩, _, _, _, _⟩ := ((HI1.out.below Hb1.out).below hb2).b0.four
          clear hb2 z0 z1 z2 z3
          go_wp2_with fail
          refine (HN.out _ Hb2.out).mono ?_
          rintro e v3 ⟨rfl, hb3⟩
          have HI2 := Lib.hid ((HI1.out.below Hb2.out).below hb3).drop
          clear hb3 t0 t1 t2 t3
          go_wp2_with fail
          go_end0
          refine ⟨rfl, ?_⟩
          rw [HTT.out, if_neg (by simp; omega)]
          exact HI2.out
  · have e1 : ((σ.err : Int) != 0) = true := by simpa using herr
    have hTT : T = σ := by rw [← hT]; unfold PP.limitP; rw [if_neg herr]
    have HTT := Lib.hid hTT
    have HI1 := Lib.hid I1.drop
    clear hTT hT I1 h hm hs herr
    go_enter Tryz.func45, Tryz.ntmps45
    go_wp2_with fail
    refine bodyPost_ret (results_none rfl _ _ _) rfl ?_
    refine ⟨rfl, ?_⟩
    rw [HTT.out]
    exact HI1.out
end
end Go.Proofs.YtglaecalbamnkaaGreatDoor
/- The contracts of the parser's array and variable; rows of known blocks. -/
namespace Go.Proofs.YtglaecalbamnkaaGreatDoor
open Go.RowKit Go.Maps
open PP (Tree)

section
variable {w0 : World} {Z : Nat → Prop} {b : Nat} {X : Loc} {E : PP.Env} {σ : PP.St} {bl bl' : List OwnB} {ks : List (Option Addr × List Tree)} {W : World}
theorem Inv.perm (h : Inv w0 Z b X E σ bl ks W) (p : bl.Perm bl') : Inv w0 Z b X E σ bl' ks W := by
  have pm := p.map (·.1)
  refine ⟨h.ps, h.gx0, h.ps0, h.fr, h.zb, fun x hx => h.own x (p.mem_iff.2 hx), pm.nodup_iff.1 h.nd, fun x hx => (h.ks x hx).weak (fun g hg _ => ⟨hg.1, fun hm => hg.2 (pm.mem_iff.2 hm)⟩)⟩
end
/-- A slice that owns a row, and the block of that row, which is known whole. -/
def RowV (base : Nat) (e : TypeId) (size : Nat) (v : Value) (n : Nat) (xs : List Value) (bs : List OwnB) : Prop :=
  xs.length = n * size ∧ ((v = .slice none 0 0 ∧ n = 0 ∧ bs = []) ∨ ∃ g cap cur, v = .slice (some ⟨g, 0, none⟩) n cap ∧ base ≤ g ∧ n ≤ cap ∧ cap ≤ maxLen ∧ cur.size = cap * size ∧ cur.toList.take (n * size) = xs ∧ bs = [(g, e, cur)])
theorem RowV.nil (base : Nat) (e : TypeId) (size : Nat) : RowV base e size (.slice none 0 0) 0 [] [] := ⟨by simp, .inl ⟨rfl, rfl, rfl⟩⟩
section
variable {base : Nat} {e : TypeId} {size : Nat} {v : Value} {n : Nat} {xs : List Value} {bs : List OwnB}
theorem RowV.own (h : RowV base e size v n xs bs) {W : World} (hb : ∀ x ∈ bs, Blk W x.1 x.2.1 x.2.2) : W.ownsRow base e size v n xs := by
  refine ⟨h.1, ?_⟩
  rcases h.2 with ⟨rfl, rfl, _⟩ | ⟨g, cap, cur, rfl, h1, h2, h3, h4, h5, rfl⟩
  · exact .inl ⟨rfl, rfl⟩
  · exact .inr ⟨g, cap, cur, rfl, h1, hb (g, e, cur) (by simp), h2, h3, h4, h5⟩
theorem RowV.form (h : RowV base e size v n xs bs) : ∃ A c, v = .slice A n c := by
  rcases h.2 with ⟨rfl, rfl, _⟩ | ⟨g, cap, cur, rfl, _⟩ <;> exact ⟨_, _, rfl⟩
theorem RowV.blk (h : RowV base e size v n xs bs) {x : OwnB} (hx : x ∈ bs) : v.ownBlock = some x.1 := by
  rcases h.2 with ⟨rfl, rfl, rfl⟩ | ⟨g, cap, cur, rfl, _, _, _, _, _, rfl⟩
  · simp at hx
  · simp only [List.mem_cons, List.not_mem_nil, or_false] at hx; subst hx; rfl
end
theorem row_of_own {W : World} {base : Nat} {e : TypeId} {size : Nat} {v : Value} {n : Nat} {xs : List Value} (h : W.ownsRow base e size v n xs) : ∃ bs, RowV base e size v n xs bs ∧ (∀ x ∈ bs, Blk W x.1 x.2.1 x.2.2 ∧ base ≤ x.1) ∧ (bs.map (·.1)).Nodup := by
  rcases h.2 with ⟨rfl, rfl⟩ | ⟨g, cap, cur, rfl, h1, h2, h3, h4, h5, h6⟩
  · exact ⟨[], ⟨h.1, .inl ⟨rfl, rfl, rfl⟩⟩, fun x hx => by simp at hx, by simp⟩
  · refine ⟨[(g, e, cur)], ⟨h.1, .inr ⟨g, cap, cur, rfl, h1, h3, h4, h5, h6, rfl⟩⟩, fun x hx => ?_, by simp⟩
    simp only [List.mem_cons, List.not_mem_nil, or_false] at hx; subst hx
    exact ⟨h2, h1⟩
/-- After an append: the row's block is known anew. -/
theorem Inv.append {w0 : World} {Z : Nat → Prop} {b : Nat} {X : Loc} {E : PP.Env} {σ : PP.St} {bs rest : List OwnB} {ks : List (Option Addr × List Tree)} {W W' : World} {e : TypeId} {size : Nat} {v v' : Value} {n n' : Nat} {xs xs' : List Value} {g H : Nat}
    (h : Inv w0 Z b X E σ (bs ++ rest) ks W) (hr : RowV w0.heap.size e size v n xs bs) (hown : W'.ownsRow w0.heap.size e size v' n' xs') (hg : W.grownBy W' v.ownBlock) (hat : v.ownBlock = some g ∨ g = H) (hH : W.heap.size = H) (hv : v'.ownBlock = some g) :
    ∃ bs', RowV w0.heap.size e size v' n' xs' bs' ∧ Inv w0 Z b X E σ (bs' ++ rest) ks W' := by
  subst hH
  obtain ⟨bs', hr', hb', hnd'⟩ := row_of_own hown
  refine ⟨bs', hr', ?_⟩
  have hlt := h.lt
  have hvr : ∀ k, v.ownBlock = some k → w0.heap.size ≤ k ∧ k ∈ bs.map (·.1) := by
    intro k hk
    rcases hr.2 with ⟨rfl, rfl, _⟩ | ⟨g, cap, cur, rfl, h1, _, _, _, _, rfl⟩
    · simp [Value.ownBlock] at hk
    · simp [Value.ownBlock] at hk; subst hk; exact ⟨h1, by simp⟩
  have hF : Fr b w0 W' := h.fr.grow hg (fun k hk => (hvr k hk).1)
  obtain ⟨σ0, h0⟩ := h.ps0
  have hp : PS W' b X E σ := h0.fr hF ((hg.block b h.ps.lt (fun e => by have := (hvr b e.symm).1; omega)).trans h.ps.blk) h.ps.next
  have hnd := h.nd
  rw [List.map_append, List.nodup_append] at hnd
  have hrest : ∀ x ∈ rest, x.1 ≠ g := by
    intro x hx e
    rcases hat with h1 | h1
    · exact hnd.2.2 x.1 (by rw [e]; exact (hvr g h1).2) x.1 (List.mem_map_of_mem hx) rfl
    · have := (h.own x (by simp [hx])).1.lt; omega
  refine ⟨hp, h.gx0, h.ps0, hF, h.zb, fun x hx => ?_, ?_, fun x hx => ?_⟩
  · rcases List.mem_append.1 hx with hx | hx
    · exact hb' x hx
    · obtain ⟨k1, k2⟩ := h.own x (by simp [hx])
      refine ⟨(hg.block x.1 k1.lt (fun e => ?_)).trans k1, k2⟩
      exact hnd.2.2 x.1 (hvr x.1 e.symm).2 x.1 (List.mem_map_of_mem hx) rfl
  · rw [List.map_append, List.nodup_append]
    refine ⟨hnd', hnd.2.1, fun a ha c hc => ?_⟩
    obtain ⟨x, hx, rfl⟩ := List.mem_map.1 ha
    obtain ⟨y, hy, rfl⟩ := List.mem_map.1 hc
    have h1 := hr'.blk hx
    rw [hv] at h1
    injection h1 with h1
    exact fun e => hrest y hy (by rw [← e, ← h1])
  · have k0 := (h.ks x hx).weak (Z' := fun k => ((Z k ∨ w0.heap.size ≤ k) ∧ k ∉ (bs ++ rest).map (·.1)) ∧ k ≠ g) (fun k hk hlt => ⟨hk, by
      rintro rfl
      rcases hat with h1 | h1
      · exact hk.2 (by rw [List.map_append]; exact List.mem_append_left _ (hvr k h1).2)
      · omega⟩)
    refine (k0.keep ⟨hg.size, fun k hk hlt => hg.block k hlt (fun e => hk.1.2 ?_)⟩).weak (fun k hk _ => ⟨hk.1.1, fun hm => ?_⟩)
    · rw [List.map_append]; exact List.mem_append_left _ (hvr k e.symm).2
    · rw [List.map_append] at hm
      rcases List.mem_append.1 hm with hm | hm
      · obtain ⟨y, hy, rfl⟩ := List.mem_map.1 hm
        have h1 := hr'.blk hy
        rw [hv] at h1
        injection h1 with h1
        exact hk.2 h1.symm
      · exact hk.1.2 (by rw [List.map_append]; exact List.mem_append_right _ hm)

theorem array_result {fn : Func} {p : Tmp} (h : fn.results = #[.cell p 43]) {tmps : Array Value} {w : World} {g : Nat} {a0 a1 : Value} (hp : tmps.getD p undef = .pointer (some ⟨g, 0, none⟩)) (hb : Blk w g 43 #[a0, a1]) :
    (results fn tmps).run Tryz.prog w = .ok (.agg #[a0, a1]) w :=
  results_cell_row h tmps w g 43 _ (0, 0) _ hp hb Tryz.underlying43 rfl (by kernel_rfl)
section
set_option maxHeartbeats 1000000
set_option maxRecDepth 100000
variable {w0 : World} {Z : Nat → Prop} {b : Nat} {X : Loc} {E : PP.Env} {σ : PP.St} {bl : List OwnB} {ks : List (Option Addr × List Tree)} {W : World}
theorem array_inv (h : Inv w0 Z b X E σ bl ks W) (hlt : σ.next < E.ts.length) :
    Calls Tryz.prog 12 #[.pointer (some ⟨b, 0, none⟩)] W fun r w' => r = .returned (.agg #[.string ⟨(PP.arrayP E σ).2.name.toArray⟩, .int .i64 (PP.arrayP E σ).2.len]) ∧ Inv w0 Z b X E (PP.arrayP E σ).1 bl ks w' := by
  have hlen := h.ps.len
  have I0 := h.alloc #[.string ⟨#[]⟩, .int .i64 0] 43 rfl
  have cb := I0.ps.cells.2.1
  have fb := I0.ps.frozen 1
  have hbW := h.ps.lt
  have hbne : b ≠ W.heap.size := by omega
  have HI1 := Lib.hid ((h.adv hlt).alloc #[.string ⟨#[]⟩, .int .i64 0] 43 (n := W.heap.size) (by simp))
  have HI2 := Lib.hid (HI1.out.alloc #[.string ⟨#[]⟩, .int .i64 0] 43 (n := W.heap.size + 1) (by simp))
  generalize hT : PP.arrayP E σ = T at *
  have HT := Lib.hid hT
  clear hT h I0
  go_enter Tryz.func12, Tryz.ntmps12
  go_wp2_with fail
  refine (nameP_inv HI2.out).mono ?_
  rintro e w3 ⟨rfl, I3⟩
  generalize hq : PP.nameP E (PP.adv σ) = q at *
  obtain ⟨σ3, nm⟩ := q
  have Hq := Lib.hid hq
  have x0 := I3.b0.cell 0
  have x1 := I3.b0.frozen 0
  have I4 : Inv w0 Z b X E σ3 ((W.heap.size + 1, 43, #[.string ⟨nm.toArray⟩, .int .i64 0]) :: _) _ _ := I3.set0 0 (.string ⟨nm.toArray⟩)
  have HI4 := Lib.hid I4
  simp only [List.getElem?_toArray, List.getElem?_cons_zero] at x0
  clear I4 I3 hq cb fb HI1 HI2
  go_wp2_with fail
  refine (require_inv ⟨#[91]⟩ HI4.out).mono ?_
  rintro e w5 ⟨rfl, I5⟩
  have HI5 := Lib.hid I5
  clear I5 HI4 x0 x1
  go_wp2_with fail
  refine (numP_inv 1 32 (by omega) (by omega) (by omega) HI5.out).mono ?_
  rintro e w6 ⟨rfl, I6⟩
  generalize hV : PP.numP E (PP.require E σ3 [91]) 1 32 = q at *
  obtain ⟨σ6, val⟩ := q
  have hV' : PP.numP E (PP.require E σ3 [91]) 1 32 = (σ6, val) := hV
  have I6' : Inv w0 Z b X E σ6 _ _ w6 := I6
  have HV := Lib.hid hV'
  have x0 : w6.cell? ⟨W.heap.size + 1, 1, none⟩ = some (.int .i64 0) := I6'.b0.cell 1
  have x1 := I6'.b0.frozen 1
  have I7 : Inv w0 Z b X E σ6 ((W.heap.size + 1, 43, #[.string ⟨nm.toArray⟩, .int .i64 val]) :: _) _ _ := I6'.set0 1 (.int .i64 val)
  have HI7 := Lib.hid I7
  clear I7 I6 I6' HI5 hV hV'
  go_wp2_with fail
  refine (require_inv ⟨#[93]⟩ HI7.out).mono ?_
  rintro e w8 ⟨rfl, I8⟩
  have HI8 := Lib.hid I8
  clear I8 HI7 x0 x1
  go_wp2_with fail
  refine (require_inv ⟨#[59]⟩ HI8.out).mono ?_
  rintro e w9 ⟨rfl, I9⟩
  have n0 : w9.cell? ⟨W.heap.size + 1, 0, none⟩ = some (.string ⟨nm.toArray⟩) := I9.b0.cell 0
  have n1 : w9.cell? ⟨W.heap.size + 1, 1, none⟩ = some (.int .i64 val) := I9.b0.cell 1
  have r0 : w9.cell? ⟨W.heap.size, 0, none⟩ = some (.string ⟨#[]⟩) := I9.b1.cell 0
  have r1 : w9.cell? ⟨W.heap.size, 1, none⟩ = some (.int .i64 0) := I9.b1.cell 1
  have q0 := I9.b1.frozen 0
  have q1 := I9.b1.frozen 1
  have HQ := Lib.hid (fun v0 v1 => (show Inv w0 Z b X E _ (_ :: (W.heap.size, 43, #[v0, v1]) :: bl) ks _ from (I9.set1 0 v0).set1 1 v1))
  clear I9 HI8
  go_wp2_with fail
  refine bodyPost_ret (array_result rfl rfl (HQ.out _ _).b1) rfl ?_
  have e1 : T = (PP.require E (PP.require E σ6 [93]) [59], ⟨nm, val⟩) := by
    rw [← HT.out]; unfold PP.arrayP; simp only []; rw [Hq.out]; simp only []; rw [HV.out]
  rw [e1]
  exact ⟨rfl, (HQ.out _ _).drop.drop⟩
theorem variable_inv (h : Inv w0 Z b X E σ bl ks W) (hlt : σ.next < E.ts.length) :
    Calls Tryz.prog 58 #[.pointer (some ⟨b, 0, none⟩)] W fun r w' => r = .returned (.string ⟨(PP.variableP E σ).2.toArray⟩) ∧ Inv w0 Z b X E (PP.variableP E σ).1 bl ks w' := by
  have hlen := h.ps.len
  have cb := h.ps.cells.2.1
  have fb := h.ps.frozen 1
  have HI1 := Lib.hid (h.adv hlt)
  generalize hT : PP.variableP E σ = T at *
  have HT := Lib.hid hT
  clear hT h
  go_enter Tryz.func58, Tryz.ntmps58
  go_wp2_with fail
  refine (nameP_inv HI1.out).mono ?_
  rintro e w3 ⟨rfl, I3⟩
  generalize hq : PP.nameP E (PP.adv σ) = q at *
  obtain ⟨σ3, nm⟩ := q
  have Hq := Lib.hid hq
  have HI3 : Hid (Inv w0 Z b X E σ3 bl ks w3) := Lib.hid I3
  clear I3 hq cb fb HI1
  go_wp2_with fail
  refine (require_inv ⟨#[59]⟩ HI3.out).mono ?_
  rintro e w5 ⟨rfl, I5⟩
  have HI5 := Lib.hid I5
  clear I5 HI3
  go_wp2_with fail
  go_ret
  have e1 : T = (PP.require E σ3 [59], nm) := by
    rw [← HT.out]; unfold PP.variableP; simp only []; rw [Hq.out]
  rw [e1]
  exact ⟨rfl, HI5.out⟩
end
end Go.Proofs.YtglaecalbamnkaaGreatDoor
