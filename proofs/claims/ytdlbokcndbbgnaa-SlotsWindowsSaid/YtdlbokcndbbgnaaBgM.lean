/- Rational numbers in memory: the denominator. -/
import Derived.Test.YtdlbokcndbbgnaaBgL
import Derived.ProofKit
namespace Go.Proofs.Ytdlbokcndbbgnaa
open Go.RowKit Go.Maps
open BG (val dig)
abbrev tR : TypeId := 52
theorem bi_nat {w : World} {n c : Nat} {A : Option Addr} (h : DG w A (dig n)) (hc : (dig n).length ≤ c) : BI w (.agg #[.bool false, .slice A (dig n).length c]) (n : Int) :=
  ⟨A, c, by rw [show decide ((n : Int) < 0) = false from by simp, Int.natAbs_natCast], by rw [Int.natAbs_natCast]; exact h, by rw [Int.natAbs_natCast]; exact hc⟩
theorem nat_bi {w : World} {v : Value} {n : Nat} (h : BI w v (n : Int)) : ∃ A c, v = .agg #[.bool false, .slice A (dig n).length c] ∧ DG w A (dig n) ∧ (dig n).length ≤ c := by
  obtain ⟨A, c, h1, h2, h3⟩ := h
  rw [show decide ((n : Int) < 0) = false from by simp, Int.natAbs_natCast] at h1
  rw [Int.natAbs_natCast] at h2 h3
  exact ⟨A, c, h1, h2, h3⟩
/-- A rational number in memory that is not negative: numerator N, denominator D (0 stands for 1). -/
def RT (w : World) (v : Value) (N D : Nat) : Prop := ∃ A c A' c' E, v = .agg #[.bool false, .slice A (dig N).length c, .bool false, .slice A' (dig E).length c'] ∧ DG w A (dig N) ∧ (dig N).length ≤ c ∧ DG w A' (dig E) ∧ (dig E).length ≤ c' ∧ D = if E = 0 then 1 else E
theorem RT.fx {T : List TypeId} {w w' : World} {v : Value} {N D : Nat} (h : RT w v N D) (k : FxT T w w') (ht : 104 ∉ T) : RT w' v N D := by
  obtain ⟨A, c, A', c', E, h1, h2, h3, h4, h5, h6⟩ := h
  exact ⟨A, c, A', c', E, h1, h2.fx k ht, h3, h4.fx k ht, h5, h6⟩
theorem RT.below {w w' : World} {v : Value} {N D : Nat} (h : RT w v N D) (k : Below w.heap.size w w') : RT w' v N D := by
  obtain ⟨A, c, A', c', E, h1, h2, h3, h4, h5, h6⟩ := h
  exact ⟨A, c, A', c', E, h1, h2.below k, h3, h4.below k, h5, h6⟩
theorem RT.pos {w : World} {v : Value} {N D : Nat} (h : RT w v N D) : 0 < D := by
  obtain ⟨A, c, A', c', E, -, -, -, -, -, h6⟩ := h
  rw [h6]; split <;> omega
section
set_option maxHeartbeats 4000000
set_option maxRecDepth 100000
theorem den_any (v : Value) (N D : Nat) (w : World) (h : RT w v N D) :
    Calls Try.prog 36 #[v] w fun e w' => ∃ u, e = .returned u ∧ BI w' u (D : Int) ∧ Below w.heap.size w w' := by
  obtain ⟨A, c, A', c', E, rfl, h2, h3, h4, h5, h6⟩ := h
  have hg := ((Below.refl w.heap.size w).alloc (Nat.le_refl _) (.cells #[.bool false, .slice A (dig N).length c, .bool false, .slice A' (dig E).length c'] tR)).alloc (by simp) (.cells #[.bool false, .slice none 0 0] tI)
  have hX := (Blk.new w tR #[.bool false, .slice A (dig N).length c, .bool false, .slice A' (dig E).length c']).alloc (.cells #[.bool false, .slice none 0 0] tI)
  have hZ := blk_second w tR tI #[.bool false, .slice A (dig N).length c, .bool false, .slice A' (dig E).length c'] #[.bool false, .slice none 0 0]
  have HSG := Lib.hid (sign_any (E : Int) _ _ (bi_nat (h4.below hg) h5))
  have HD := Lib.hid h6
  have HB := Lib.hid (fun (hE : E ≠ 0) => (show BI _ _ (D : Int) from by rw [h6, if_neg hE]; exact bi_nat (h4.below hg) h5))
  have HG := Lib.hid hg
  have HX := Lib.hid hX
  have HZ := Lib.hid hZ
  generalize (dig N).length = k1 at *
  generalize (dig E).length = k2 at *
  clear h2 h3 h4 h5 h6 hg hX hZ
  go_enter Try.func36, Try.ntmps36
  go_upto_region 1 with fail
  have x2 := HX.out.cell 2
  have x3 := HX.out.cell 3
  simp only [List.getElem?_toArray, List.getElem?_cons_zero, List.getElem?_cons_succ] at x2 x3
  generalize ((w.alloc (.cells #[.bool false, .slice A k1 c, .bool false, .slice A' k2 c'] tR)).alloc (.cells #[.bool false, .slice none 0 0] tI)) = w0 at *
  go_wp2_with fail
  refine HSG.out.mono ?_
  rintro e w1 ⟨rfl, hw1⟩
  have HZ1 := Lib.hid (HZ.out.below hw1.1)
  have HX1 := Lib.hid (HX.out.below hw1.1)
  have HG1 := Lib.hid (HG.out.trans (hw1.1.mono HG.out.size))
  have hw1b := hw1.1
  by_cases h0 : E = 0
  · subst h0
    have HO := Lib.hid (of_any 1 w1 (by omega) (by omega))
    clear HB HX HZ HG HSG hw1
    go_wp2_with fail
    refine HO.out.mono ?_
    rintro e w2 ⟨v2, rfl, hv2, hb2⟩
    have HZ2 := Lib.hid (HZ1.out.below hb2)
    have HG2 := Lib.hid (HG1.out.trans (hb2.mono HG1.out.size))
    have HV2 := Lib.hid hv2
    obtain ⟨A2, c2, rfl, _, _⟩ := hv2
    have f0 := HZ2.out.frozen 0
    have f1 := HZ2.out.frozen 1
    have k0 := HZ2.out.cell 0
    have k1' := HZ2.out.cell 1
    clear hb2 HO
    go_wp2_with fail
    have hfx := fun (u0 u1 : Value) => ((FxT.refl [50] w2).set HZ2.out (by simp) 0 u0).set (HZ2.out.set_ 0 u0) (by simp) 1 u1
    refine bodyPost_ret (bi_result rfl rfl ((HZ2.out.set_ 0 _).set_ 1 _)) rfl ?_
    refine ⟨_, rfl, ?_, (HG2.out.setCell (p := ⟨w.heap.size + 1, 0, none⟩) (by simp) _).setCell (p := ⟨w.heap.size + 1, 1, none⟩) (by simp) _⟩
    rw [show D = 1 by rw [HD.out]; simp]
    exact HV2.out.fx (hfx _ _) (by decide)
  · have e0 : ((E : Int).sign == 0) = false := by rw [Int.sign_eq_one_of_pos (by omega)]; rfl
    have HV2 := Lib.hid ((HB.out h0).below hw1b)
    have x2 := HX1.out.cell 2
    have x3 := HX1.out.cell 3
    have f0 := HZ1.out.frozen 0
    have f1 := HZ1.out.frozen 1
    have k0 := HZ1.out.cell 0
    have k1' := HZ1.out.cell 1
    simp only [List.getElem?_toArray, List.getElem?_cons_zero, List.getElem?_cons_succ] at x2 x3
    clear HB HX HZ HG HSG hw1
    generalize (E : Int).sign = sg at *
    go_wp2_with fail
    have hfx := fun (u0 u1 : Value) => ((FxT.refl [50] w1).set HZ1.out (by simp) 0 u0).set (HZ1.out.set_ 0 u0) (by simp) 1 u1
    refine bodyPost_ret (bi_result rfl rfl ((HZ1.out.set_ 0 _).set_ 1 _)) rfl ?_
    exact ⟨_, rfl, HV2.out.fx (hfx _ _) (by decide), (HG1.out.setCell (p := ⟨w.heap.size + 1, 0, none⟩) (by simp) _).setCell (p := ⟨w.heap.size + 1, 1, none⟩) (by simp) _⟩
end
end Go.Proofs.Ytdlbokcndbbgnaa
