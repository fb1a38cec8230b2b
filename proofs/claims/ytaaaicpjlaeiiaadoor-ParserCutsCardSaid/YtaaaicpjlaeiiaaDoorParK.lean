/- The contract of the parser's transfer (NOT FINISHED). -/
import Derived.Test.YtaaaicpjlaeiiaaDoorInv
import Derived.Test.YtaaaicpjlaeiiaaDoorPlainPar3
namespace Go.Proofs.YtaaaicpjlaeiiaaDoor
open Go.RowKit Go.Maps
open PP (Tree)

section
set_option maxHeartbeats 1000000
set_option maxRecDepth 100000
attribute [local go_sem ↓] Go.wp_at_zero Go.wp_at_succ
variable {b : Nat} {X : Loc} {E : PP.Env} {σ : PP.St}
theorem transfer_any (kind : Nat) (w : World) (Z : Nat → Prop) (hZ : ¬ Z b) (hg : Gx w b X) (h : PS w b X E σ) (k : Nat) (num : Int) (nm : List UInt8) (A : Option Addr) (c : Nat) (kids : List Tree) (hk : KidsC w Z A kids) :
    Calls Tryd.prog 143 #[.pointer (some ⟨b, 0, none⟩), .int .u8 (kind : Int), .agg #[.int .u8 (k : Int), .int .i64 num, .string ⟨nm.toArray⟩, .slice A kids.length c]] w fun r w' =>
      ∃ v, r = .returned v ∧ NodeV w' (fun g => Z g ∨ w.heap.size ≤ g) v (PP.transfer E kind (.node k num nm kids) σ).2 ∧ PS w' b X E (PP.transfer E kind (.node k num nm kids) σ).1 ∧ Fr b w w' := by
  have I0 := ((Inv.start h hg hZ).addKs (hk.weak (fun g hg _ => ⟨.inl hg, by simp⟩)))
  have I1 := (I0.alloc #[.int .u8 (k : Int), .int .i64 num, .string ⟨nm.toArray⟩, .slice A kids.length c] 24 rfl).alloc #[.int .u8 0, .int .i64 0, .string ⟨#[]⟩, .slice none 0 0] 24 (n := w.heap.size + 1) (by simp)
  have HI1 := Lib.hid I1
  have hbl := h.lt
  generalize hT : PP.transfer E kind (.node k num nm kids) σ = T at *
  have HT := Lib.hid hT
  clear hT I0 I1 h hk hg
  go_enter Tryd.func143, Tryd.ntmps143
  go_wp2_with fail
  refine (require_any ⟨#[44]⟩ _ HI1.out.ps).mono ?_
  rintro e w2 ⟨rfl, h2, hf2⟩
  have I2 := HI1.out.call h2 hf2
  have HI2 := Lib.hid I2
  clear h2 hf2 HI1
  obtain ⟨s0, d0, d1, d2, d3⟩ := I2.b1.four
  clear I2
  go_wp2_with fail
  have hz1 : (0 : Int) ≤ 0 := by omega
  have hz2 : (0 : Int) ≤ 7 := by omega
  have hz3 : (7 : Int) ≤ 2147483647 := by omega
  have HC1 := Lib.hid (HI2.out.kids1 (k := k) (num := num) (nm := nm) (A := A) (c := c) (kids := kids) (by simp) rfl)
  have HC2 := Lib.hid (HI2.out.alloc #[.int .u8 0, .int .i64 0, .string ⟨#[]⟩, .slice none 0 0] 24 rfl)
  have HC3 := Lib.hid (HC1.out.alloc #[.int .u8 0, .int .i64 0, .string ⟨#[]⟩, .slice none 0 0] 24 (n := w2.heap.size + 1) (by simp))
  have HC4 := Lib.hid (HC2.out.kids1 (k := k) (num := num) (nm := nm) (A := A) (c := c) (kids := kids) (by simp) (n := w2.heap.size + 1) (by simp))
  go_region_held3 (fun W => W.cell? ⟨w.heap.size, 0, none⟩ = some (.int .u8 (k : Int)) ∧ W.cell? ⟨w.heap.size, 1, none⟩ = some (.int .i64 num) ∧ W.cell? ⟨w.heap.size, 2, none⟩ = some (.string ⟨nm.toArray⟩) ∧ W.cell? ⟨w.heap.size, 3, none⟩ = some (.slice A kids.length c)) 
   (with_reducible first | exact HI2.out.b1.four.1 | exact HI2.out.drew.b1.four.1 | exact HC1.out.b1.four.1 | exact HC1.out.drew.b1.four.1 | exact HC2.out.b2.four.1 | exact HC2.out.drew.b2.four.1 | exact HC3.out.b2.four.1 | exact HC3.out.drew.b2.four.1 | exact HC4.out.b2.four.1 | exact HC4.out.drew.b2.four.1 | exact I3.b1.four.1 | exact I3.drew.b1.four.1 | exact I3.b2.four.1 | exact I3.drew.b2.four.1 | exact (I3.more _).b1.four.1 | exact (I3.more _).drew.b1.four.1 | exact (I3.more _).b2.four.1 | exact (I3.more _).drew.b2.four.1 | exact ((I3.more _).more _).b1.four.1 | exact ((I3.more _).more _).drew.b1.four.1 | exact (I3.st0 _ _ _ _).b2.four.1 | exact (I3.st0 _ _ _ _).drew.b2.four.1 | exact ((I3.st0 _ _ _ _).more _).b2.four.1 | exact ((I3.st0 _ _ _ _).more _).drew.b2.four.1)
   (first | (go_at_call 104; (first | (with_reducible refine (numP_inv 0 7 hz1 hz2 hz3 HI2.out).mono ?_) | (with_reducible refine (numP_inv 0 7 hz1 hz2 hz3 HI2.out.drew).mono ?_) | (with_reducible refine (numP_inv 0 7 hz1 hz2 hz3 HC1.out).mono ?_) | (with_reducible refine (numP_inv 0 7 hz1 hz2 hz3 HC1.out.drew).mono ?_) | (with_reducible refine (numP_inv 0 7 hz1 hz2 hz3 HC2.out).mono ?_) | (with_reducible refine (numP_inv 0 7 hz1 hz2 hz3 HC2.out.drew).mono ?_) | (with_reducible refine (numP_inv 0 7 hz1 hz2 hz3 HC3.out).mono ?_) | (with_reducible refine (numP_inv 0 7 hz1 hz2 hz3 HC3.out.drew).mono ?_) | (with_reducible refine (numP_inv 0 7 hz1 hz2 hz3 HC4.out).mono ?_) | (with_reducible refine (numP_inv 0 7 hz1 hz2 hz3 HC4.out.drew).mono ?_)); rintro e w3 ⟨rfl, I3⟩; obtain ⟨⟨x0, x1, x2, x3⟩, y0, y1, y2, y3⟩ := I3.b0.four; have hNlt := I3.b0.lt))
  all_goals
    clear HC1 HC2 HC3 HC4 HI2 s0 d0 d1 d2 d3
    go_wp2_with fail
    (first | (with_reducible refine (require_inv ⟨#[59]⟩ ((I3.kids1 (k := k) (num := num) (nm := nm) (A := A) (c := c) (kids := kids) (by simp) rfl).alloc _ _ (n := w3.heap.size + 1) (by simp))).mono ?_) | (with_reducible refine (require_inv ⟨#[59]⟩ ((I3.kids1 (k := k) (num := num) (nm := nm) (A := A) (c := c) (kids := kids) (by simp) rfl).alloc _ _ (n := w3.heap.size + 1) (by simp)).drew).mono ?_) | (with_reducible refine (require_inv ⟨#[59]⟩ ((I3.alloc _ _ rfl).kids1 (k := k) (num := num) (nm := nm) (A := A) (c := c) (kids := kids) (by simp) (n := w3.heap.size + 1) (by simp))).mono ?_) | (with_reducible refine (require_inv ⟨#[59]⟩ ((I3.alloc _ _ rfl).kids1 (k := k) (num := num) (nm := nm) (A := A) (c := c) (kids := kids) (by simp) (n := w3.heap.size + 1) (by simp)).drew).mono ?_) | (with_reducible refine (require_inv ⟨#[59]⟩ (I3.alloc _ _ rfl)).mono ?_) | (with_reducible refine (require_inv ⟨#[59]⟩ (I3.alloc _ _ rfl).drew).mono ?_) | (with_reducible refine (require_inv ⟨#[59]⟩ (I3.st0 _ _ _ _)).mono ?_) | (with_reducible refine (require_inv ⟨#[59]⟩ (I3.st0 _ _ _ _).drew).mono ?_) | (with_reducible refine (require_inv ⟨#[59]⟩ ((I3.st0 _ _ _ _).kids1 (k := k) (num := num) (nm := nm) (A := A) (c := c) (kids := kids) (by simp) (n := w3.heap.size) (by simp))).mono ?_) | (with_reducible refine (require_inv ⟨#[59]⟩ ((I3.st0 _ _ _ _).kids1 (k := k) (num := num) (nm := nm) (A := A) (c := c) (kids := kids) (by simp) (n := w3.heap.size) (by simp)).drew).mono ?_))
    rintro e w4 ⟨rfl, I4⟩
    obtain ⟨⟨n0, n1, n2, n3⟩, _, _, _, _⟩ := I4.b0.four
    obtain ⟨⟨r0, r1, r2, r3⟩, q0, q1, q2, q3⟩ := I4.b1.four
    have HQ := Lib.hid (fun v0 v1 v2 v3 => I4.st1 v0 v1 v2 v3)
    clear I3 I4 x0 x1 x2 x3 y0 y1 y2 y3
    go_wp2_with fail
    refine bodyPost_ret (node_result rfl rfl (HQ.out _ _ _ _).b1) rfl ?_
    have e1 : T = (PP.require E (PP.numP E (PP.require E σ [44]) 0 7).1 [59], .node kind (PP.numP E (PP.require E σ [44]) 0 7).2 [] [.node k num nm kids]) := HT.out.symm
    rw [e1]
    exact ⟨_, rfl, ⟨kind, _, [], _, 1, [.node k num nm kids], rfl, rfl, ((HQ.out _ _ _ _).ks (_, _) (by simp; done)).weak (fun g hg _ => hg.1)⟩, (HQ.out _ _ _ _).ps, (HQ.out _ _ _ _).fr⟩
end
end Go.Proofs.YtaaaicpjlaeiiaaDoor
