/- The contract of the parser's choice, from that of its statement. -/
import Derived.Test.YtaaaicpjlaeiiaaDoorParM
namespace Go.Proofs.YtaaaicpjlaeiiaaDoor
open Go.RowKit Go.Maps
open PP (Tree)

/-- A call that hands a tree back, over the bundle. -/
theorem tree_inv {w0 : World} {Z : Nat → Prop} {b : Nat} {X : Loc} {E : PP.Env} {σ : PP.St} {bl : List OwnB} {ks : List (Option Addr × List Tree)} {W : World} {f : FuncId} {args : Array Value} {R : PP.St → Tree → Prop}
    (h : Inv w0 Z b X E σ bl ks W) (hc : Calls Tryd.prog f args W (TreeEnd b X E σ W R)) :
    Calls Tryd.prog f args W fun r w' => ∃ k num nm A c kids σ', r = .returned (.agg #[.int .u8 ((k : Nat) : Int), .int .i64 num, .string ⟨(nm : List UInt8).toArray⟩, .slice A (kids : List Tree).length c]) ∧ Inv w0 Z b X E σ' bl ((A, kids) :: ks) w' ∧ R σ' (.node k num nm kids) ∧ σ.next ≤ σ'.next :=
  hc.mono fun r w' ⟨v, t, σ', hr, ⟨k, num, nm, A, c, kids, hv, ht, hk⟩, hp, hf, hR, hn⟩ => ⟨k, num, nm, A, c, kids, σ', by rw [hr, hv], h.tree hp hf hk, ht ▸ hR, hn⟩
def pick3 {α : Type} (i : Nat) (x y z : α) : α := if i = 0 then x else if i = 1 then y else z
/-- A new slice of three nodes. -/
theorem kids_three {w : World} {Z : Nat → Prop} (hz : Z w.heap.size) {k : Nat} {num : Int} {nm : List UInt8} {A : Option Addr} {c : Nat} {kids : List Tree} (h : KidsC w Z A kids)
    {k' : Nat} {num' : Int} {nm' : List UInt8} {A' : Option Addr} {c' : Nat} {kids' : List Tree} (h' : KidsC w Z A' kids')
    {k2 : Nat} {num2 : Int} {nm2 : List UInt8} {A2 : Option Addr} {c2 : Nat} {kids2 : List Tree} (h2 : KidsC w Z A2 kids2) (ty : TypeId) :
    KidsC (w.alloc (.cells #[.int .u8 (k : Int), .int .i64 num, .string ⟨nm.toArray⟩, .slice A kids.length c, .int .u8 (k' : Int), .int .i64 num', .string ⟨nm'.toArray⟩, .slice A' kids'.length c', .int .u8 (k2 : Int), .int .i64 num2, .string ⟨nm2.toArray⟩, .slice A2 kids2.length c2] ty)) Z (some ⟨w.heap.size, 0, none⟩) [.node k num nm kids, .node k' num' nm' kids', .node k2 num2 nm2 kids2] := by
  have hf := (Keep.refl Z w).alloc (.cells #[.int .u8 (k : Int), .int .i64 num, .string ⟨nm.toArray⟩, .slice A kids.length c, .int .u8 (k' : Int), .int .i64 num', .string ⟨nm'.toArray⟩, .slice A' kids'.length c', .int .u8 (k2 : Int), .int .i64 num2, .string ⟨nm2.toArray⟩, .slice A2 kids2.length c2] ty)
  have hc := fun j => cell_of_row (w.alloc (.cells #[.int .u8 (k : Int), .int .i64 num, .string ⟨nm.toArray⟩, .slice A kids.length c, .int .u8 (k' : Int), .int .i64 num', .string ⟨nm'.toArray⟩, .slice A' kids'.length c', .int .u8 (k2 : Int), .int .i64 num2, .string ⟨nm2.toArray⟩, .slice A2 kids2.length c2] ty)) w.heap.size j #[.int .u8 (k : Int), .int .i64 num, .string ⟨nm.toArray⟩, .slice A kids.length c, .int .u8 (k' : Int), .int .i64 num', .string ⟨nm'.toArray⟩, .slice A' kids'.length c', .int .u8 (k2 : Int), .int .i64 num2, .string ⟨nm2.toArray⟩, .slice A2 kids2.length c2] ty (0, 0) (heap_alloc_new w _)
  refine .mk _ _ w.heap.size 0 (fun i => pick3 i k k' k2) (fun i => pick3 i num num' num2) (fun i => pick3 i nm nm' nm2) (fun i => pick3 i A A' A2) (fun i => pick3 i c c' c2) (fun i => pick3 i kids kids' kids2) (fun _ => ⟨rfl, hz, by simp⟩) (fun i hi => ?_) (fun i hi => ?_) (fun i hi => ?_)
  · rcases (show i = 0 ∨ i = 1 ∨ i = 2 from by simp at hi; omega) with rfl | rfl | rfl <;> rfl
  · rcases (show i = 0 ∨ i = 1 ∨ i = 2 from by simp at hi; omega) with rfl | rfl | rfl
    · exact ⟨hc 0, hc 1, hc 2, hc 3⟩
    · exact ⟨hc 4, hc 5, hc 6, hc 7⟩
    · exact ⟨hc 8, hc 9, hc 10, hc 11⟩
  · rcases (show i = 0 ∨ i = 1 ∨ i = 2 from by simp at hi; omega) with rfl | rfl | rfl
    · exact h.keep hf
    · exact h'.keep hf
    · exact h2.keep hf
theorem Inv.kids3 {w0 W : World} {Z : Nat → Prop} {b : Nat} {X : Loc} {E : PP.Env} {σ : PP.St} {bl : List OwnB} {ks : List (Option Addr × List Tree)} (h : Inv w0 Z b X E σ bl ks W) {k : Nat} {num : Int} {nm : List UInt8} {A : Option Addr} {c : Nat} {kids : List Tree} (hm : (A, kids) ∈ ks)
    {k' : Nat} {num' : Int} {nm' : List UInt8} {A' : Option Addr} {c' : Nat} {kids' : List Tree} (hm' : (A', kids') ∈ ks)
    {k2 : Nat} {num2 : Int} {nm2 : List UInt8} {A2 : Option Addr} {c2 : Nat} {kids2 : List Tree} (hm2 : (A2, kids2) ∈ ks) {n : Nat} (hn : W.heap.size = n) :
    Inv w0 Z b X E σ bl ((some ⟨n, 0, none⟩, [.node k num nm kids, .node k' num' nm' kids', .node k2 num2 nm2 kids2]) :: ks) (W.alloc (.cells #[.int .u8 (k : Int), .int .i64 num, .string ⟨nm.toArray⟩, .slice A kids.length c, .int .u8 (k' : Int), .int .i64 num', .string ⟨nm'.toArray⟩, .slice A' kids'.length c', .int .u8 (k2 : Int), .int .i64 num2, .string ⟨nm2.toArray⟩, .slice A2 kids2.length c2] 24)) := by
  subst hn
  exact (h.more _).addKs (kids_three h.fresh (h.ks _ hm) (h.ks _ hm') (h.ks _ hm2) _)

section
set_option maxHeartbeats 1000000
set_option maxRecDepth 100000
attribute [local go_sem ↓] Go.wp_at_zero Go.wp_at_succ
variable {b : Nat} {X : Loc} {E : PP.Env} {σ : PP.St}
theorem choice_of (w : World) (hg : Gx w b X) (h : PS w b X E σ) (HS : ∀ σ', (PP.require E σ [105, 102]).next ≤ σ'.next → StmtOk b X E σ') :
    Calls Tryd.prog 141 #[.pointer (some ⟨b, 0, none⟩)] w (TreeEnd b X E σ w fun σ' t => ∃ n, PP.choice E n σ = some (σ', t)) := by
  have hbl := h.lt
  have I0 := (Inv.start (Z := NoZ) h hg (fun h => h)).alloc #[.int .u8 0, .int .i64 0, .string ⟨#[]⟩, .slice none 0 0] 24 rfl
  have HI0 := Lib.hid I0
  have HHS := Lib.hid HS
  have hle := (PP.le_require E σ [105, 102]).1
  clear I0 h hg HS
  go_enter Tryd.func141, Tryd.ntmps141
  go_wp2_with fail
  refine (require_inv ⟨#[105, 102]⟩ HI0.out).mono ?_
  rintro e w1 ⟨rfl, I1⟩
  have HE := Lib.hid (tree_inv I1 (expression_any _ w1 I1.gx I1.ps))
  clear I1 HI0
  go_wp2_with fail
  refine HE.out.mono ?_
  rintro e w2 ⟨k2, num2, nm2, A2, c2, kids2, σ2, rfl, I2, ⟨m2, hr2⟩, hn2⟩
  have I3 := I2.alloc #[.int .u8 (k2 : Int), .int .i64 num2, .string ⟨nm2.toArray⟩, .slice A2 kids2.length c2] 24 rfl
  have hn2' : (PP.require E σ [105, 102]).next ≤ σ2.next := hn2
  have HB := Lib.hid (tree_inv I3 (block_of _ I3.gx I3.ps (fun σ' hn => HHS.out σ' (Nat.le_trans hn2' hn))))
  have HR2 := Lib.hid hr2
  clear I2 I3 hr2 HE hn2
  go_wp2_with fail
  refine HB.out.mono ?_
  rintro e w4 ⟨k4, num4, nm4, A4, c4, kids4, σ4, rfl, I4, ⟨m4, hr4⟩, hn4⟩
  have HI5 := Lib.hid (I4.alloc #[.int .u8 (k4 : Int), .int .i64 num4, .string ⟨nm4.toArray⟩, .slice A4 kids4.length c4] 24 rfl)
  have HR4 := Lib.hid hr4
  clear I4 hr4 HB
  go_wp2_with fail
  refine (require_inv ⟨#[101, 108, 115, 101]⟩ HI5.out).mono ?_
  rintro e w6 ⟨rfl, I6⟩
  have hle6 := (PP.le_require E σ4 [101, 108, 115, 101]).1
  have HB7 := Lib.hid (tree_inv I6 (block_of _ I6.gx I6.ps (fun σ' hn => HHS.out σ' (Nat.le_trans (Nat.le_trans hn2' hn4) (Nat.le_trans hle6 hn)))))
  have HB7d := Lib.hid (tree_inv I6.drew (block_of _ I6.drew.gx I6.drew.ps (fun σ' hn => HHS.out σ' (Nat.le_trans (Nat.le_trans hn2' hn4) (Nat.le_trans hle6 hn)))))
  obtain ⟨⟨x0, x1, x2, x3⟩, _, _, _, _⟩ := I6.b0.four
  obtain ⟨⟨y0, y1, y2, y3⟩, _, _, _, _⟩ := I6.b1.four
  have HI6 := Lib.hid I6
  clear I6 HI5
  go_wp2_with fail
  go_region_held3 (fun W => (W.cell? ⟨w4.heap.size, 0, none⟩ = some (.int .u8 (k4 : Int)) ∧ W.cell? ⟨w4.heap.size, 1, none⟩ = some (.int .i64 num4) ∧ W.cell? ⟨w4.heap.size, 2, none⟩ = some (.string ⟨nm4.toArray⟩) ∧ W.cell? ⟨w4.heap.size, 3, none⟩ = some (.slice A4 kids4.length c4)) ∧ (W.cell? ⟨w2.heap.size, 0, none⟩ = some (.int .u8 (k2 : Int)) ∧ W.cell? ⟨w2.heap.size, 1, none⟩ = some (.int .i64 num2) ∧ W.cell? ⟨w2.heap.size, 2, none⟩ = some (.string ⟨nm2.toArray⟩) ∧ W.cell? ⟨w2.heap.size, 3, none⟩ = some (.slice A2 kids2.length c2)))
   (with_reducible first | exact ⟨HI6.out.b0.four.1, HI6.out.b1.four.1⟩ | exact ⟨HI6.out.drew.b0.four.1, HI6.out.drew.b1.four.1⟩ | exact ⟨I8.b0.four.1, I8.b1.four.1⟩ | exact ⟨(I8.more _).b0.four.1, (I8.more _).b1.four.1⟩ | exact ⟨((I8.st2 _ _ _ _).more _).b0.four.1, ((I8.st2 _ _ _ _).more _).b1.four.1⟩)
   (first | (go_at_call 142; (first | (with_reducible refine HB7.out.mono ?_) | (with_reducible refine HB7d.out.mono ?_)); rintro e w8 ⟨k8, num8, nm8, A8, c8, kids8, σ8, rfl, I8, ⟨m8, hr8⟩, hn8⟩; obtain ⟨⟨z0, z1, z2, z3⟩, q0, q1, q2, q3⟩ := I8.b2.four; have hRlt := I8.b2.lt))
  have HQ := Lib.hid (fun v0 v1 v2 v3 => (I8.st2 v0 v1 v2 v3).kids3 (k := k2) (num := num2) (nm := nm2) (A := A2) (c := c2) (kids := kids2) (by simp) (k' := k4) (num' := num4) (nm' := nm4) (A' := A4) (c' := c4) (kids' := kids4) (by simp) (k2 := k8) (num2 := num8) (nm2 := nm8) (A2 := A8) (c2 := c8) (kids2 := kids8) (by simp) (n := w8.heap.size) (by simp))
  have hfin : PP.choice E (max (max m2 m4) m8 + 1) σ = some (σ8, .node 41 0 [] [.node k2 num2 nm2 kids2, .node k4 num4 nm4 kids4, .node k8 num8 nm8 kids8]) := by
    have e2 : PP.binary E (max (max m2 m4) m8) 0 (PP.require E σ [105, 102]) = some (σ2, .node k2 num2 nm2 kids2) := PP.binary_le E (by omega) HR2.out
    have e4 : PP.block E (max (max m2 m4) m8) σ2 = some (σ4, .node k4 num4 nm4 kids4) := PP.block_le E (by omega) HR4.out
    have e8 : PP.block E (max (max m2 m4) m8) (PP.require E σ4 [101, 108, 115, 101]) = some (σ8, .node k8 num8 nm8 kids8) := PP.block_le E (by omega) hr8
    generalize max (max m2 m4) m8 = M at *
    rw [PP.choice, e2, Option.bind_some, e4, Option.bind_some, e8]; rfl
  have hnn : σ.next ≤ σ8.next := by
    have h1 : (PP.require E σ4 [101, 108, 115, 101]).next ≤ σ8.next := hn8
    omega
  have HFIN := Lib.hid hfin
  clear hfin I8 HB7 HB7d HI6 HR2 HR4 hr8
  go_wp2_with fail
  refine bodyPost_ret (node_result rfl rfl (HQ.out _ _ _ _).b2) rfl ?_
  exact (HQ.out _ _ _ _).done (A := some ⟨w8.heap.size, 0, none⟩) (kids := [.node k2 num2 nm2 kids2, .node k4 num4 nm4 kids4, .node k8 num8 nm8 kids8]) (k := 41) (num := 0) (nm := []) (c := 3) (by simp) ⟨_, HFIN.out⟩ hnn
end
end Go.Proofs.YtaaaicpjlaeiiaaDoor
