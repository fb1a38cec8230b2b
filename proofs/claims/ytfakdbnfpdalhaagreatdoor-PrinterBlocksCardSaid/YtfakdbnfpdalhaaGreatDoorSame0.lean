/- The contract of ast.Same at two empty programs. -/
import Derived.Test.YtfakdbnfpdalhaaGreatDoorKF
namespace Go.Proofs.YtfakdbnfpdalhaaGreatDoor
open Go.RowKit Go.Maps
theorem blk_second (w : World) (t t' : TypeId) (cs cs' : Array Value) : Blk ((w.alloc (.cells cs t)).alloc (.cells cs' t')) (w.heap.size + 1) t' cs' := by
  have := Blk.new (w.alloc (.cells cs t)) t' cs'
  simpa using this
theorem Blk.two {w : World} {g : Nat} {t : TypeId} {a b : Value} (h : Blk w g t #[a, b]) : w.cell? ⟨g, 1, none⟩ = some b := h.cell 1
section
set_option maxHeartbeats 2000000
set_option maxRecDepth 100000
theorem equal_arrays0 (A A' : Option Addr) (c c' : Nat) (w : World) :
    Calls Tryz.prog 66 #[.slice A 0 c, .slice A' 0 c'] w fun e w' => e = .returned (.bool true) ∧ Below w.heap.size w w' := by
  go_enter Tryz.func66, Tryz.ntmps66
  go_wp2_with fail
  go_loop [13] (fun i => i = .int .i64 0) (fun _ => 0)
  case atStart => rfl
  case round =>
    subst hrel
    go_wp2_with fail
    go_ret
    exact ⟨rfl, Below.refl _ _⟩
theorem equal_tasks0 (A A' : Option Addr) (c c' : Nat) (f : Value) (w : World) :
    Calls Tryz.prog 67 #[.slice A 0 c, .slice A' 0 c', f] w fun e w' => e = .returned (.bool true) ∧ Below w.heap.size w w' := by
  go_enter Tryz.func67, Tryz.ntmps67
  go_wp2_with fail
  go_loop [17] (fun i => i = .int .i64 0) (fun _ => 0)
  case atStart => rfl
  case round =>
    subst hrel
    go_wp2_with fail
    go_ret
    exact ⟨rfl, Below.refl _ _⟩
theorem same_zero (A A' B B' : Option Addr) (c c' d d' : Nat) (w : World) :
    Calls Tryz.prog 27 #[.agg #[.slice A 0 c, .slice A' 0 c'], .agg #[.slice B 0 d, .slice B' 0 d']] w fun e w' => e = .returned (.bool true) ∧ Below w.heap.size w w' := by
  have hb : Below w.heap.size w ((w.alloc (.cells #[.slice A 0 c, .slice A' 0 c'] 26)).alloc (.cells #[.slice B 0 d, .slice B' 0 d'] 26)) := ((Below.refl _ _).alloc (Nat.le_refl _) _).alloc (by simp) _
  have HB := Lib.hid hb
  clear hb
  go_enter Tryz.func27, Tryz.ntmps27
  go_wp2_with fail
  refine (equal_arrays0 _ _ _ _ _).mono ?_
  rintro e w1 ⟨rfl, hb1⟩
  have k1 : Blk w1 w.heap.size 26 #[.slice A 0 c, .slice A' 0 c'] := (hb1.block _ (by simp; omega)).trans ((Blk.new _ _ _).alloc _)
  have k2 : Blk w1 (w.heap.size + 1) 26 #[.slice B 0 d, .slice B' 0 d'] := (hb1.block _ (by simp)).trans (blk_second _ _ _ _ _)
  have HB1 := Lib.hid (HB.out.trans (hb1.mono HB.out.size))
  have l1 := k1.lt
  have l2 := k2.lt
  have x1 := k1.two
  have x2 := k2.two
  clear k1 k2 hb1
  go_wp2_with fail
  refine (equal_tasks0 _ _ _ _ _ _).mono ?_
  rintro e w2 ⟨rfl, hb2⟩
  have HB2 := Lib.hid (HB1.out.trans (hb2.mono HB1.out.size))
  clear hb2 x1 x2
  go_wp2_with fail
  go_ret
  exact ⟨rfl, HB2.out⟩
end
end Go.Proofs.YtfakdbnfpdalhaaGreatDoor
