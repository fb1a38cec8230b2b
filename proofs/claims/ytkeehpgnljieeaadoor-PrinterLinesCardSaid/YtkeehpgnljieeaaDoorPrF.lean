/- The contracts of the printer's block and statement. -/
import Derived.Test.YtkeehpgnljieeaaDoorPrE
import Derived.Deep.RegionWith
namespace Go.Proofs.YtkeehpgnljieeaaDoor
open Go.RowKit
open PP (Tree)
section
variable {B b : Nat}
/-- The contract of statement at a tree. -/
def PrStmtOk (B b : Nat) (t : Tree) : Prop := ∀ (w0 W : World) (bs : List UInt8) (ind : Nat) (bl : List OwnB) (k : Nat) (num : Int) (nm : List UInt8) (A : Option Addr) (c : Nat) (kids : List Tree), t = .node k num nm kids → KidsC w0 (· < B) A kids → PInv w0 B b bs (ind : Int) bl W → ind + t.depth ≤ 1000 → bs.length + (PP.prS t ind).length ≤ 140737488355328 →
  Calls Tryd.prog 14 #[.pointer (some ⟨b, 0, none⟩), .agg #[.int .u8 (k : Int), .int .i64 num, .string ⟨nm.toArray⟩, .slice A kids.length c]] W fun e w' => e = .returned (.tuple #[]) ∧ PInv w0 B b (bs ++ PP.prS t ind) (ind : Int) bl w'
/-- The contract of block at a tree. -/
def PrBlockOk (B b : Nat) (t : Tree) : Prop := ∀ (w0 W : World) (bs : List UInt8) (ind : Nat) (bl : List OwnB) (k : Nat) (num : Int) (nm : List UInt8) (A : Option Addr) (c : Nat) (kids : List Tree), t = .node k num nm kids → KidsC w0 (· < B) A kids → PInv w0 B b bs (ind : Int) bl W → ind + t.depth ≤ 1000 → bs.length + (PP.prB t (ind + 1)).length ≤ 140737488355328 →
  Calls Tryd.prog 31 #[.pointer (some ⟨b, 0, none⟩), .agg #[.int .u8 (k : Int), .int .i64 num, .string ⟨nm.toArray⟩, .slice A kids.length c]] W fun e w' => e = .returned (.tuple #[]) ∧ PInv w0 B b (bs ++ PP.prB t (ind + 1)) (ind : Int) bl w'
theorem prL_take {l : List Tree} {j : Nat} {t : Tree} (h : l[j]? = some t) (i : Nat) : PP.prL (l.take (j + 1)) i = PP.prL (l.take j) i ++ PP.prS t i := by
  induction l generalizing j with
  | nil => simp at h
  | cons a l ih =>
    cases j with
    | zero => simp at h; subst h; simp [PP.prL]
    | succ j => simp only [List.take_succ_cons, PP.prL, List.append_assoc]; rw [ih (by simpa using h)]
theorem prL_le (l : List Tree) (j i : Nat) : (PP.prL (l.take j) i).length ≤ (PP.prL l i).length := by
  induction l generalizing j with
  | nil => simp
  | cons a l ih =>
    cases j with
    | zero => simp [PP.prL]
    | succ j => simp only [List.take_succ_cons, PP.prL, List.length_append]; have := ih j; omega
theorem depth_at : ∀ {l : List Tree} {j : Nat} {t : Tree}, l[j]? = some t → t.depth ≤ PP.depthL l
  | [], _, _, h => by simp at h
  | a :: l, 0, t, h => by simp at h; subst h; simp only [PP.depthL]; omega
  | a :: l, j + 1, t, h => by
    have := depth_at (l := l) (j := j) (t := t) (by simpa using h)
    simp only [PP.depthL]; omega
set_option maxHeartbeats 2000000
set_option maxRecDepth 100000
theorem prblock_of {t : Tree} (hS : ∀ x ∈ t.kids, PrStmtOk B b x) (hlen : t.kids.length ≤ 1000000) : PrBlockOk B b t := by
  intro w0 W bs ind bl k num nm A c kids ht hk h hd hl
  subst ht
  simp only [PP.Tree.kids] at hS hlen
  simp only [PP.prB, PP.Tree.depth] at hl hd ⊢
  have hi := (h.indent ((ind : Int) + 1)).alloc #[.int .u8 (k : Int), .int .i64 num, .string ⟨nm.toArray⟩, .slice A kids.length c] 24 (by decide) rfl
  obtain ⟨q2, f2⟩ := h.pg.cell2
  have hbl := h.pg.lt
  have HS := Lib.hid hS
  have HK := Lib.hid hk
  clear h hS hk
  go_enter Tryd.func31, Tryd.ntmps31
  go_wp2_with fail
  have HI := Lib.hid hi
  clear hi q2 f2
  generalize (W.setCell ⟨b, 2, none⟩ (.int .i64 ((ind : Int) + 1))).alloc (.cells #[.int .u8 (k : Int), .int .i64 num, .string ⟨nm.toArray⟩, .slice A kids.length c] 24) = w6 at *
  go_loopw [16] (fun i wr => ∃ j : Nat, j ≤ kids.length ∧ i = .int .i64 (j : Int) ∧ PInv w0 B b (bs ++ PP.prL (kids.take j) (ind + 1)) ((ind : Int) + 1) ((W.heap.size, 24, #[.int .u8 (k : Int), .int .i64 num, .string ⟨nm.toArray⟩, .slice A kids.length c]) :: bl) wr) (fun i _ => kids.length - (intOf i).toNat)
  case atStart => exact ⟨0, Nat.zero_le _, rfl, by simpa [PP.prL] using HI.out⟩
  case round =>
    obtain ⟨j, hj, rfl, hr⟩ := hrel
    by_cases hlt : j < kids.length
    · have hne : kids ≠ [] := by intro e; rw [e] at hlt; simp at hlt
      obtain ⟨g, o, rfl, hg, _, hat⟩ := HK.out.at_ hne
      obtain ⟨k1, num1, nm1, A1, c1, ks1, ht, ⟨x0, x1, x2, x3⟩, hk1⟩ := hat j _ (List.getElem?_eq_getElem hlt)
      have hkj : kids[j]? = some (.node k1 num1 nm1 ks1) := by rw [List.getElem?_eq_getElem hlt, ht]
      have d0 := (hr.be.cell (p := ⟨g, o + j * 4, none⟩) hg).trans x0
      have d1 := (hr.be.cell (p := ⟨g, o + j * 4 + 1, none⟩) hg).trans x1
      have d2 := (hr.be.cell (p := ⟨g, o + j * 4 + 2, none⟩) hg).trans x2
      have d3 := (hr.be.cell (p := ⟨g, o + j * 4 + 3, none⟩) hg).trans x3
      have hgv : g < wr.heap.size := Nat.lt_of_lt_of_le hg hr.size
      have hle := prL_le kids (j + 1) (ind + 1)
      rw [prL_take hkj, List.length_append] at hle
      have HT := Lib.hid (prL_take hkj (ind + 1))
      have hdep := depth_at hkj
      have ha := hr.alloc #[.int .u8 (k1 : Int), .int .i64 num1, .string ⟨nm1.toArray⟩, .slice A1 ks1.length c1] 24 (by decide) rfl
      have HC := Lib.hid (HS.out _ (List.mem_of_getElem? hkj) w0 _ _ (ind + 1) _ k1 num1 nm1 A1 c1 ks1 rfl hk1 (by have := ha; simpa using this) (by omega) (by simp only [List.length_append]; omega))
      have p1 : (0 : Int) ≤ (j : Int) := by omega
      have p2 : (j : Int) < (kids.length : Int) := by omega
      clear hat ht hkj hk1 x0 x1 x2 x3 hne ha hr
      go_wp2_with fail
      refine HC.out.mono ?_
      rintro e w2 ⟨rfl, hp2⟩
      have HP := Lib.hid hp2
      clear hp2 d0 d1 d2 d3 HC
      go_wp2_with fail
      go_roundw
      case rel => exact ⟨j + 1, by omega, by go_num, by rw [HT.out, ← List.append_assoc]; have := HP.out.drop; simpa using this⟩
      case measure => simp [intOf]; omega
    · have hall : kids.take j = kids := List.take_of_length_le (by omega)
      rw [hall] at hr
      obtain ⟨q2, f2⟩ := hr.pg.cell2
      have HQ := Lib.hid (hr.indent ((ind : Int) + 1 - 1))
      have hbv := hr.pg.lt
      clear hr hall
      go_wp2_with fail
      go_end0
      exact ⟨rfl, by have := HQ.out.drop; simpa using this⟩
end
end Go.Proofs.YtkeehpgnljieeaaDoor
