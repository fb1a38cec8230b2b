/- awake: the chapter's example. -/
import Derived.Test.YtdlbokcndbbgnaaSlO
import Derived.Test.YtdlbokcndbbgnaaPlainSl2
namespace Go.Proofs.Ytdlbokcndbbgnaa
open Go.RowKit Go.Maps Go.Sort Go.Lib
open SL (Tk Jb Ms Cd)
theorem cell_new (W : World) (cs : Array Value) (t : TypeId) (i : Nat) : (W.alloc (.cells cs t)).cell? ⟨W.heap.size, i, none⟩ = cs[i]? := cell_of_row _ _ i cs t _ (Blk.new W t cs)
theorem row_new (W : World) (cs : Array Value) (t : TypeId) (xs : List Value) (h : cs.toList = xs) : Row (W.alloc (.cells cs t)) (some ⟨W.heap.size, 0, none⟩) xs := fun _ => by
  refine ⟨W.heap.size, 0, rfl, by simp, fun i v hi => ?_⟩
  rw [Nat.zero_add, cell_new, ← hi, ← h]
  simp
theorem row_alloc {W : World} {A : Option Addr} {xs : List Value} (h : Row W A xs) (o : Obj) : Row (W.alloc o) A xs := h.below ((Below.refl W.heap.size W).alloc (Nat.le_refl _) o)
theorem own_slice {w : World} {base : Nat} {e : TypeId} {size n : Nat} {v : Value} {xs : List Value} (h : w.ownsRow base e size v n xs) : ∃ A c, v = .slice A n c := by
  rcases h.2 with ⟨e0, h0⟩ | ⟨g, cap, cur, e0, _⟩
  · exact ⟨none, 0, by first | rw [h0, e0] | rw [e0, h0]⟩
  · exact ⟨_, _, e0⟩
section
set_option maxHeartbeats 2000000
set_option maxRecDepth 100000
theorem aw_mc (W : World) (m1 t1 t2 t3 : TypeId) :
    MC ((((((W.alloc (.cells #[.string ⟨#[]⟩, .int .i64 2, .int .i64 3] m1)).alloc (.cells #[.string ⟨#[]⟩, .int .i64 2, .int .i64 3, .string ⟨#[]⟩, .int .i64 2, .int .i64 3, .string ⟨#[]⟩, .int .i64 2, .int .i64 3] t1)).alloc
      (.cells #[.int .i64 0] t2)).alloc (.cells #[.int .i64 0] t2)).alloc (.cells #[.int .i64 0] t2)).alloc
      (.cells #[.slice (some ⟨W.heap.size + 1 + 1, 0, none⟩) 1 1, .slice (some ⟨W.heap.size + 1 + 1 + 1, 0, none⟩) 1 1, .slice (some ⟨W.heap.size + 1 + 1 + 1 + 1, 0, none⟩) 1 1] t3))
      ⟨[SL.awT, SL.awT, SL.awT], some ⟨W.heap.size + 1, 0, none⟩, 3, [[0], [0], [0]], some ⟨W.heap.size + 1 + 1 + 1 + 1 + 1, 0, none⟩, 3⟩ := by
  generalize e1 : W.alloc (.cells #[.string ⟨#[]⟩, .int .i64 2, .int .i64 3] m1) = W1
  have s1 : W1.heap.size = W.heap.size + 1 := by rw [← e1]; simp
  generalize e2 : W1.alloc (.cells #[.string ⟨#[]⟩, .int .i64 2, .int .i64 3, .string ⟨#[]⟩, .int .i64 2, .int .i64 3, .string ⟨#[]⟩, .int .i64 2, .int .i64 3] t1) = W2
  have s2 : W2.heap.size = W.heap.size + 1 + 1 := by rw [← e2, ← s1]; simp
  generalize e3 : W2.alloc (.cells #[.int .i64 0] t2) = W3
  have s3 : W3.heap.size = W.heap.size + 1 + 1 + 1 := by rw [← e3, ← s2]; simp
  generalize e4 : W3.alloc (.cells #[.int .i64 0] t2) = W4
  have s4 : W4.heap.size = W.heap.size + 1 + 1 + 1 + 1 := by rw [← e4, ← s3]; simp
  generalize e5 : W4.alloc (.cells #[.int .i64 0] t2) = W5
  have s5 : W5.heap.size = W.heap.size + 1 + 1 + 1 + 1 + 1 := by rw [← e5, ← s4]; simp
  rw [← s5, ← s4, ← s3, ← s2, ← s1]
  refine ⟨show SL.okTs [SL.awT, SL.awT, SL.awT] = true by decide, rfl, show SL.okRels [SL.awT, SL.awT, SL.awT] [[0], [0], [0]] = true by decide, ?_, ?_⟩
  · have h := row_new W1 #[.string ⟨#[]⟩, .int .i64 2, .int .i64 3, .string ⟨#[]⟩, .int .i64 2, .int .i64 3, .string ⟨#[]⟩, .int .i64 2, .int .i64 3] t1 (tkRow [SL.awT, SL.awT, SL.awT]) rfl
    rw [e2] at h
    have h := row_alloc h (.cells #[.int .i64 0] t2)
    rw [e3] at h
    have h := row_alloc h (.cells #[.int .i64 0] t2)
    rw [e4] at h
    have h := row_alloc h (.cells #[.int .i64 0] t2)
    rw [e5] at h
    exact row_alloc h _
  · refine ⟨some ⟨W5.heap.size, 0, none⟩, 3, _, rfl, rfl, row_new W5 _ t3 _ rfl, fun i r hi => ?_⟩
    have h1 := row_new W2 #[.int .i64 0] t2 _ rfl
    have h2 := row_new W3 #[.int .i64 0] t2 _ rfl
    have h3 := row_new W4 #[.int .i64 0] t2 _ rfl
    rw [e3] at h1
    have h1 := row_alloc h1 (.cells #[.int .i64 0] t2)
    rw [e4] at h1 h2
    have h1 := row_alloc h1 (.cells #[.int .i64 0] t2)
    have h2 := row_alloc h2 (.cells #[.int .i64 0] t2)
    rw [e5] at h1 h2 h3
    match i with
    | 0 => simp at hi; subst hi; exact ⟨_, _, rfl, row_alloc h1 _⟩
    | 1 => simp at hi; subst hi; exact ⟨_, _, rfl, row_alloc h2 _⟩
    | 2 => simp at hi; subst hi; exact ⟨_, _, rfl, row_alloc h3 _⟩
    | k + 3 => simp at hi
theorem ints2 (W : World) (A : Option Addr) (c : Nat) (a b : Int) (t : TypeId) (h : Row W A [.int .i64 a, .int .i64 b]) :
    Calls Try.prog 12 #[.slice A 2 c, .slice (some ⟨W.heap.size, 0, none⟩) 2 2] (W.alloc (.cells #[.int .i64 a, .int .i64 b] t)) fun e w' => e = .returned (.bool true) ∧ ∃ q, w' = (W.alloc (.cells #[.int .i64 a, .int .i64 b] t)).drewN q :=
  ints_any [a, b] A (some ⟨W.heap.size, 0, none⟩) c 2 _ (row_alloc h _) (row_new W _ t _ rfl) (show 2 ≤ maxLen by decide)
theorem awake_any (w : World) : Calls Try.prog 5 #[] w fun e w' => e = .returned (.bool true) ∧ Below w.heap.size w w' := by
  go_enter Try.func5, Try.ntmps5
  go_wp2_with fail
  have hmc := aw_mc w 34 34 3 35
  have h := simulate_any _ 2 3 _ hmc SL.aw_valid (show ∀ r ∈ [[0], [0], [0]], r.length ≤ maxLen ∧ ∀ x ∈ r, x ≤ (9223372036854775807 : Int) by decide) (show 3 ≤ maxLen by decide) (by omega) (by omega)
  have h : Calls Try.prog 11 #[.slice (some ⟨w.heap.size + 1, 0, none⟩) 3 3, .int .i64 2, .slice (some ⟨w.heap.size + 1 + 1 + 1 + 1 + 1, 0, none⟩) 3 3, .int .i64 3] ((((((w.alloc (.cells #[.string ⟨#[]⟩, .int .i64 2, .int .i64 3] 34)).alloc (.cells #[.string ⟨#[]⟩, .int .i64 2, .int .i64 3, .string ⟨#[]⟩, .int .i64 2, .int .i64 3, .string ⟨#[]⟩, .int .i64 2, .int .i64 3] 34)).alloc (.cells #[.int .i64 0] 3)).alloc (.cells #[.int .i64 0] 3)).alloc (.cells #[.int .i64 0] 3)).alloc (.cells #[.slice (some ⟨w.heap.size + 1 + 1, 0, none⟩) 1 1, .slice (some ⟨w.heap.size + 1 + 1 + 1, 0, none⟩) 1 1, .slice (some ⟨w.heap.size + 1 + 1 + 1 + 1, 0, none⟩) 1 1] 35)) fun e w' => ∃ gs mv, e = .returned (.tuple #[.slice (some ⟨gs, 0, none⟩) 3 3, mv, .int .i64 0]) ∧ w.heap.size ≤ gs ∧ SchedS w' gs 3 3 [[0, 1], [0, 2], [1, 2]] ∧
      w'.ownsRow w.heap.size 88 3 mv 0 [] ∧ Below ((((((w.alloc (.cells #[.string ⟨#[]⟩, .int .i64 2, .int .i64 3] 34)).alloc (.cells #[.string ⟨#[]⟩, .int .i64 2, .int .i64 3, .string ⟨#[]⟩, .int .i64 2, .int .i64 3, .string ⟨#[]⟩, .int .i64 2, .int .i64 3] 34)).alloc (.cells #[.int .i64 0] 3)).alloc (.cells #[.int .i64 0] 3)).alloc (.cells #[.int .i64 0] 3)).alloc (.cells #[.slice (some ⟨w.heap.size + 1 + 1, 0, none⟩) 1 1, .slice (some ⟨w.heap.size + 1 + 1 + 1, 0, none⟩) 1 1, .slice (some ⟨w.heap.size + 1 + 1 + 1 + 1, 0, none⟩) 1 1] 35)).heap.size ((((((w.alloc (.cells #[.string ⟨#[]⟩, .int .i64 2, .int .i64 3] 34)).alloc (.cells #[.string ⟨#[]⟩, .int .i64 2, .int .i64 3, .string ⟨#[]⟩, .int .i64 2, .int .i64 3, .string ⟨#[]⟩, .int .i64 2, .int .i64 3] 34)).alloc (.cells #[.int .i64 0] 3)).alloc (.cells #[.int .i64 0] 3)).alloc (.cells #[.int .i64 0] 3)).alloc (.cells #[.slice (some ⟨w.heap.size + 1 + 1, 0, none⟩) 1 1, .slice (some ⟨w.heap.size + 1 + 1 + 1, 0, none⟩) 1 1, .slice (some ⟨w.heap.size + 1 + 1 + 1 + 1, 0, none⟩) 1 1] 35)) w' := by
    refine h.mono ?_
    rintro e w' ⟨gs, mv, h1, h2, h3, h4, h5⟩
    show ∃ gs mv, _
    rw [show (Mdl.mk [SL.awT, SL.awT, SL.awT] (some ⟨w.heap.size + 1, 0, none⟩) 3 [[0], [0], [0]] (some ⟨w.heap.size + 1 + 1 + 1 + 1 + 1, 0, none⟩) 3).ts = [SL.awT, SL.awT, SL.awT] from rfl, show (Mdl.mk [SL.awT, SL.awT, SL.awT] (some ⟨w.heap.size + 1, 0, none⟩) 3 [[0], [0], [0]] (some ⟨w.heap.size + 1 + 1 + 1 + 1 + 1, 0, none⟩) 3).rs = [[0], [0], [0]] from rfl, SL.aw_sim] at h3 h4
    exact ⟨gs, mv, h1, Nat.le_trans (by simp; omega) h2, h3, own_base h4 (by simp; omega), h5⟩
  have hbw : Below w.heap.size w ((((((w.alloc (.cells #[.string ⟨#[]⟩, .int .i64 2, .int .i64 3] 34)).alloc (.cells #[.string ⟨#[]⟩, .int .i64 2, .int .i64 3, .string ⟨#[]⟩, .int .i64 2, .int .i64 3, .string ⟨#[]⟩, .int .i64 2, .int .i64 3] 34)).alloc
      (.cells #[.int .i64 0] 3)).alloc (.cells #[.int .i64 0] 3)).alloc (.cells #[.int .i64 0] 3)).alloc
      (.cells #[.slice (some ⟨w.heap.size + 1 + 1, 0, none⟩) 1 1, .slice (some ⟨w.heap.size + 1 + 1 + 1, 0, none⟩) 1 1, .slice (some ⟨w.heap.size + 1 + 1 + 1 + 1, 0, none⟩) 1 1] 35)) :=
    ((((((Below.refl w.heap.size w).alloc (Nat.le_refl _) _).alloc (by simp) _).alloc (by simp; omega) _).alloc (by simp; omega) _).alloc (by simp; omega) _).alloc (by simp; omega) _
  have HBW := Lib.hid hbw
  have HSM := Lib.hid h
  clear h hmc hbw
  (with_reducible refine HSM.out.mono ?_)
  clear HSM
  rintro e w7 ⟨gs, mv, rfl, hgs, ⟨vs, hbk, hvs, hS, hrow, hz⟩, how, hb7⟩
  have hmv : ∃ A c, mv = .slice A 0 c := by
    obtain ⟨A, c, hv⟩ := own_slice how
    exact ⟨A, c, hv⟩
  obtain ⟨mA, mc, rfl⟩ := hmv
  obtain ⟨A0, c0, v0, r0⟩ := hrow 0 _ rfl
  obtain ⟨A1, c1, v1, r1⟩ := hrow 1 _ rfl
  obtain ⟨A2, c2, v2, r2⟩ := hrow 2 _ rfl
  have HB7 := Lib.hid (HBW.out.trans (hb7.mono HBW.out.size))
  have g0 := hbk.cell 0
  rw [v0] at g0
  have HBK := Lib.hid hbk
  have HR0 := Lib.hid (show Row w7 A0 [.int .i64 0, .int .i64 1] from r0.row)
  have HR1 := Lib.hid (show Row w7 A1 [.int .i64 0, .int .i64 2] from r1.row)
  have HR2 := Lib.hid (show Row w7 A2 [.int .i64 1, .int .i64 2] from r2.row)
  have HV1 := Lib.hid v1
  have HV2 := Lib.hid v2
  clear hbk r0 r1 r2 v0 v1 v2 hrow hz hS how hb7 hvs
  simp only [List.length_cons, List.length_nil] at g0
  go_wp2_with fail
  (with_reducible refine (ints2 w7 A0 c0 0 1 3 HR0.out).mono ?_)
  rintro e w8 ⟨rfl, q8, h8⟩
  have hb8 : Below w7.heap.size w7 w8 := by rw [h8]; exact below_drewN ((Below.refl _ _).alloc (Nat.le_refl _) _) q8
  clear h8
  have g1 := (HBK.out.below hb8).cell 1
  rw [HV1.out] at g1
  simp only [List.length_cons, List.length_nil] at g1
  have HB8 := Lib.hid (HB7.out.trans (hb8.mono HB7.out.size))
  have HBK8 := Lib.hid (HBK.out.below hb8)
  have HR18 := Lib.hid (HR1.out.below hb8)
  have HR28 := Lib.hid (HR2.out.below hb8)
  clear hb8
  go_wp2_with fail
  (with_reducible refine (ints2 w8 A1 c1 0 2 3 HR18.out).mono ?_)
  rintro e w9 ⟨rfl, q9, h9⟩
  have hb9 : Below w8.heap.size w8 w9 := by rw [h9]; exact below_drewN ((Below.refl _ _).alloc (Nat.le_refl _) _) q9
  clear h9
  have g2 := (HBK8.out.below hb9).cell 2
  rw [HV2.out] at g2
  simp only [List.length_cons, List.length_nil] at g2
  have HB9 := Lib.hid (HB8.out.trans (hb9.mono HB8.out.size))
  have HR29 := Lib.hid (HR28.out.below hb9)
  clear hb9
  go_wp2_with fail
  (with_reducible refine (ints2 w9 A2 c2 1 2 3 HR29.out).mono ?_)
  rintro e w10 ⟨rfl, q10, h10⟩
  have HB10 := Lib.hid (show Below w.heap.size w w10 by rw [h10]; exact below_drewN (HB9.out.alloc HB9.out.size _) q10)
  clear h10
  go_wp2_with fail
  go_ret
  exact ⟨rfl, HB10.out⟩
end
end Go.Proofs.Ytdlbokcndbbgnaa
