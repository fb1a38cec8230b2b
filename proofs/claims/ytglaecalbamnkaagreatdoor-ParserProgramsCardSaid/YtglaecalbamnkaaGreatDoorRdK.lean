/- The contracts of the reference's Block and Expr. -/
import Derived.Test.YtglaecalbamnkaaGreatDoorRdJ
import Derived.Test.YtglaecalbamnkaaGreatDoorBlk13
namespace Go.Proofs.YtglaecalbamnkaaGreatDoor
open Go.RowKit Go.Maps
open PP (Tree)
/-- The outcome of finish at a tree that is alike where there is no error. -/
theorem out_alike {E : PP.Env} {σ : PP.St} {t t' : Tree} (h : σ.err = 0 → t = t') : PP.out PP.zeroT (endSt E t σ, t) = PP.out PP.zeroT (endSt E t' σ, t') := by
  by_cases he : σ.err = 0
  · rw [h he]
  · have hmo : PP.more E σ = false := by simp [PP.more, he]
    have e : ∀ t, endSt E t σ = σ := fun t => by unfold endSt; rw [hmo]; unfold PP.limitP; simp [he]
    unfold PP.out
    rw [e t, e t']
    simp [he]
def RefEnd (s : ByteArray) (F : Nat → Option (PP.St × Tree)) (w : World) (r : Ending) (w' : World) : Prop :=
  ∃ v n q, F n = some q ∧ r = .returned (.tuple #[v, .int .i64 ((PP.out PP.zeroT (endSt (envOf s) q.2 q.1, q.2)).2.1 : Int), .int .i64 ((PP.out PP.zeroT (endSt (envOf s) q.2 q.1, q.2)).2.2 : Int)]) ∧ NodeV w' (w.heap.size ≤ ·) v (PP.out PP.zeroT (endSt (envOf s) q.2 q.1, q.2)).1 ∧ Below w.heap.size w w'
section
set_option maxHeartbeats 2000000
set_option maxRecDepth 100000
theorem refend_of {s : ByteArray} {w w1 : World} {b : Nat} {Y : RLoc} {σ2 : PP.St} {F : Nat → Option (PP.St × Tree)} {bl : List OwnB} {ks : List (Option Addr × List Tree)} {k2 : Nat} {num2 : Int} {nm2 : List UInt8} {kids2 : List Tree}
    (hal : Alike F σ2 (.node k2 num2 nm2 kids2)) (hB1 : Below w.heap.size w w1) (hb : w.heap.size ≤ b) {k : Nat} {num : Int} {nm : List UInt8} {A : Option Addr} {c : Nat} {kids : List Tree} {w5 : World}
    (hout : (PP.out PP.zeroT (endSt (envOf s) (.node k2 num2 nm2 kids2) σ2, .node k2 num2 nm2 kids2)).1 = .node k num nm kids) {σ' : PP.St} (I5 : RInv w1 NoZ b Y (envOf s) σ' bl ((A, kids) :: ks) w5) (hlt : w.heap.size < w1.heap.size) (v0 v1 v2 v3 : Value) :
    RefEnd s F w (.returned (.tuple #[.agg #[.int .u8 (k : Int), .int .i64 num, .string ⟨nm.toArray⟩, .slice A kids.length c], .int .i64 ((PP.out PP.zeroT (endSt (envOf s) (.node k2 num2 nm2 kids2) σ2, .node k2 num2 nm2 kids2)).2.1 : Int), .int .i64 ((PP.out PP.zeroT (endSt (envOf s) (.node k2 num2 nm2 kids2) σ2, .node k2 num2 nm2 kids2)).2.2 : Int)]))
      ((((w5.setCell ⟨w.heap.size, 0, none⟩ v0).setCell ⟨w.heap.size, 1, none⟩ v1).setCell ⟨w.heap.size, 2, none⟩ v2).setCell ⟨w.heap.size, 3, none⟩ v3) := by
  obtain ⟨n, t', hF, ht⟩ := hal
  have ho := out_alike (E := envOf s) ht
  refine ⟨_, n, (σ2, t'), hF, by simp only []; rw [← ho], ?_, ?_⟩
  · simp only []
    rw [← ho, hout]
    refine ⟨k, num, nm, A, c, kids, rfl, rfl, ?_⟩
    have h1 := (I5.ks (A, kids) (by simp)).weak (Z' := (w1.heap.size ≤ ·)) (fun g hg _ => hg.1.resolve_left (fun h => h))
    exact (h1.keep ((Keep.refl _ _).st4 (g := w.heap.size) (by intro h; have : w1.heap.size ≤ w.heap.size := h; omega) v0 v1 v2 v3)).weak (fun g hg _ => by have : w1.heap.size ≤ g := hg; show w.heap.size ≤ g; omega)
  · have h1 := below_fr hB1 I5.fr hb hB1.size
    exact (((h1.setCell (p := ⟨w.heap.size, 0, none⟩) (Nat.le_refl _) v0).setCell (p := ⟨w.heap.size, 1, none⟩) (Nat.le_refl _) v1).setCell (p := ⟨w.heap.size, 2, none⟩) (Nat.le_refl _) v2).setCell (p := ⟨w.heap.size, 3, none⟩) (Nat.le_refl _) v3
end
end Go.Proofs.YtglaecalbamnkaaGreatDoor
