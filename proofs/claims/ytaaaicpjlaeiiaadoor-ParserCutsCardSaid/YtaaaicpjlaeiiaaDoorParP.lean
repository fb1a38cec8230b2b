/- The contracts of the parser's limit, array, variable and begins. -/
import Derived.Test.YtaaaicpjlaeiiaaDoorParO
import Derived.Test.YtaaaicpjlaeiiaaDoorMeas
namespace Go.Proofs.YtaaaicpjlaeiiaaDoor
open Go.RowKit Go.Maps
open PP (Tree)

section
set_option maxHeartbeats 1000000
set_option maxRecDepth 100000
variable {w0 : World} {Z : Nat → Prop} {b : Nat} {X : Loc} {E : PP.Env} {σ : PP.St} {bl : List OwnB} {ks : List (Option Addr × List Tree)} {W : World}
/-- A call that makes memory alone. -/
theorem Inv.below {W' : World} (h : Inv w0 Z b X E σ bl ks W) (hb : Below W.heap.size W W') : Inv w0 Z b X E σ bl ks W' := h.call (h.ps.below hb) (Fr.of_below hb)
theorem fail_inv (o e : Nat) (h : Inv w0 Z b X E σ bl ks W) :
    Calls Tryd.prog 95 #[.pointer (some ⟨b, 0, none⟩), .int .i64 (o : Int), .int .i64 (e : Int)] W fun r w' => r = .returned (.tuple #[]) ∧ Inv w0 Z b X E (PP.fail σ o e) bl ks w' :=
  (fail_any o e W h.ps).mono fun _ _ ⟨h1, h2, h3⟩ => ⟨h1, h.call h2 h3⟩
theorem here_inv (h : Inv w0 Z b X E σ bl ks W) :
    Calls Tryd.prog 96 #[.pointer (some ⟨b, 0, none⟩)] W fun r w' => r = .returned (.int .i64 (PP.here E σ : Int)) ∧ Inv w0 Z b X E σ bl ks w' :=
  (here_any W h.ps).mono fun _ _ ⟨h1, n, h2⟩ => ⟨h1, by subst h2; exact h.drewN n⟩
theorem more_inv {t : Bool} (ht : PP.more E σ = t) (h : Inv w0 Z b X E σ bl ks W) :
    Calls Tryd.prog 62 #[.pointer (some ⟨b, 0, none⟩)] W fun r w' => r = .returned (.bool t) ∧ Inv w0 Z b X E σ bl ks w' :=
  (more_any W h.ps).mono fun _ _ ⟨h1, n, h2⟩ => ⟨by rw [h1, ht], by subst h2; exact h.drewN n⟩
theorem reject_inv (h : Inv w0 Z b X E σ bl ks W) :
    Calls Tryd.prog 63 #[.pointer (some ⟨b, 0, none⟩)] W fun r w' => r = .returned (.tuple #[]) ∧ Inv w0 Z b X E (PP.reject E σ) bl ks w' :=
  (reject_any W h.ps).mono fun _ _ ⟨h1, h2, h3⟩ => ⟨h1, h.call h2 h3⟩
theorem limit_inv (h : Inv w0 Z b X E σ bl ks W) (o k : Nat) (num : Int) (nm : List UInt8) (A : Option Addr) (c : Nat) (kids : List Tree) (hm : (A, kids) ∈ ks) (hs : σ.err = 0 → PP.sizeL kids ≤ 1000000) :
    Calls Tryd.prog 97 #[.pointer (some ⟨b, 0, none⟩), .agg #[.int .u8 (k : Int), .int .i64 num, .string ⟨nm.toArray⟩, .slice A kids.length c], .int .i64 (o : Int)] W fun r w' =>
      r = .returned (.tuple #[]) ∧ Inv w0 Z b X E (PP.limitP (.node k num nm kids) o σ) bl ks w' := by
  generalize hT : PP.limitP (.node k num nm kids) o σ = T at *
  have I1 := h.alloc #[.int .u8 (k : Int), .int .i64 num, .string ⟨nm.toArray⟩, .slice A kids.length c] 24 rfl
  have c5 := I1.ps.cells.2.2.2.2.2
  by_cases herr : σ.err = 0
  · have e1 : ((σ.err : Int) != 0) = false := by simp [herr]
    have hz := hs herr
    have hms := fun W' (hb : Below (W.alloc (.cells #[.int .u8 (k : Int), .int .i64 num, .string ⟨nm.toArray⟩, .slice A kids.length c] 24)).heap.size (W.alloc (.cells #[.int .u8 (k : Int), .int .i64 num, .string ⟨nm.toArray⟩, .slice A kids.length c] 24)) W') => size_kids ((I1.below hb).ks _ hm) W' (Keep.refl _ _) k num nm c hz
    have hmn := fun W' (hb : Below (W.alloc (.cells #[.int .u8 (k : Int), .int .i64 num, .string ⟨nm.toArray⟩, .slice A kids.length c] 24)).heap.size (W.alloc (.cells #[.int .u8 (k : Int), .int .i64 num, .string ⟨nm.toArray⟩, .slice A kids.length c] 24)) W') => nest_kids ((I1.below hb).ks _ hm) W' (Keep.refl _ _) k num nm c hz
    have hmd := depth_kids (I1.ks _ hm) _ (Keep.refl _ _) k num nm c hz
    have hTT : T = if PP.large (.node k num nm kids) then PP.fail σ o 5 else σ := by rw [← hT]; unfold PP.limitP; rw [if_pos herr]
    unfold PP.large at hTT
    generalize (Tree.node k num nm kids).depth = D at *
    generalize (Tree.node k num nm kids).size = Q at *
    generalize (Tree.node k num nm kids).nest = M at *
    have HTT := Lib.hid hTT
    have HI1 := Lib.hid I1
    have HD := Lib.hid hmd
    have HS := Lib.hid hms
    have HN := Lib.hid hmn
    clear hTT hT I1 hmd hms hmn h hm hs herr hz
    by_cases d1 : 16 < D
    · have x1 : decide ((16 : Int) < (D : Int)) = true := by simp; omega
      have x2 : decide (16 < D) = true := by simp; omega
      go_enter Tryd.func97, Tryd.ntmps97
      go_wp2_with fail
      refine HD.out.mono ?_
      rintro e v1 ⟨rfl, hb1⟩
      have HF := Lib.hid (fail_inv o 5 (HI1.out.below hb1))
      clear hb1
      go_wp2_with fail
      refine HF.out.mono ?_
      rintro e v2 ⟨rfl, I2⟩
      have HI2 := Lib.hid I2.drop
      clear I2
      go_wp2_with fail
      go_end0
      refine ⟨rfl, ?_⟩
      rw [HTT.out, if_pos (by simp; omega)]
      exact HI2.out
    · have x1 : decide ((16 : Int) < (D : Int)) = false := by simp; omega
      have x2 : decide (16 < D) = false := by simp; omega
      by_cases d2 : 400 < Q
      · have y1 : decide ((400 : Int) < (Q : Int)) = true := by simp; omega
        have y2 : decide (400 < Q) = true := by simp; omega
        go_enter Tryd.func97, Tryd.ntmps97
        go_wp2_with fail
        refine HD.out.mono ?_
        rintro e v1 ⟨rfl, hb1⟩
        have Hb1 := Lib.hid hb1
        obtain ⟨⟨z0, z1, z2, z3⟩, _, _, _, _⟩ := (HI1.out.below hb1).b0.four
        clear hb1
        go_wp2_with fail
        refine (HS.out _ Hb1.out).mono ?_
        rintro e v2 ⟨rfl, hb2⟩
        have HF := Lib.hid (fail_inv o 5 ((HI1.out.below Hb1.out).below hb2))
        clear hb2 z0 z1 z2 z3
        go_wp2_with fail
        refine HF.out.mono ?_
        rintro e v3 ⟨rfl, I2⟩
        have HI2 := Lib.hid I2.drop
        clear I2
        go_wp2_with fail
        go_end0
        refine ⟨rfl, ?_⟩
        rw [HTT.out, if_pos (by simp; omega)]
        exact HI2.out
      · have y1 : decide ((400 : Int) < (Q : Int)) = false := by simp; omega
        have y2 : decide (400 < Q) = false := by simp; omega
        by_cases d3 : 4 < M
        · have q1 : decide ((4 : Int) < (M : Int)) = true := by simp; omega
          have q2 : decide (4 < M) = true := by simp; omega
          go_enter Tryd.func97, Tryd.ntmps97
          go_wp2_with fail
          refine HD.out.mono ?_
          rintro e v1 ⟨rfl, hb1⟩
          have Hb1 := Lib.hid hb1
          obtain ⟨⟨z0, z1, z2, z3⟩, _, _, _, _⟩ := (HI1.out.below hb1).b0.four
          clear hb1
          go_wp2_with fail
          refine (HS.out _ Hb1.out).mono ?_
          rintro e v2 ⟨rfl, hb2⟩
          have Hb2 := Lib.hid (Hb1.out.trans (hb2.mono Hb1.out.size))
          obtain ⟨⟨t0, t1, t2, t3⟩, _, _, _, _⟩ := ((HI1.out.below Hb1.out).below hb2).b0.four
          clear hb2 z0 z1 z2 z3
          go_wp2_with fail
          refine (HN.out _ Hb2.out).mono ?_
          rintro e v3 ⟨rfl, hb3⟩
          have HF := Lib.hid (fail_inv o 5 ((HI1.out.below Hb2.out).below hb3))
          clear hb3 t0 t1 t2 t3
          go_wp2_with fail
          refine HF.out.mono ?_
          rintro e v4 ⟨rfl, I2⟩
          have HI2 := Lib.hid I2.drop
          clear I2
          go_wp2_with fail
          go_end0
          refine ⟨rfl, ?_⟩
          rw [HTT.out, if_pos (by simp; omega)]
          exact HI2.out
        · have q1 : decide ((4 : Int) < (M : Int)) = false := by simp; omega
          have q2 : decide (4 < M) = false := by simp; omega
          go_enter Tryd.func97, Tryd.ntmps97
          go_wp2_with fail
          refine HD.out.mono ?_
          rintro e v1 ⟨rfl, hb1⟩
          have Hb1 := Lib.hid hb1
          obtain ⟨⟨z0, z1, z2, z3⟩, _, _, _, _⟩ := (HI1.out.below hb1).b0.four
          clear hb1
          go_wp2_with fail
          refine (HS.out _ Hb1.out).mono ?_
          rintro e v2 ⟨rfl, hb2⟩
          have Hb2 := Lib.hid (Hb1.out.trans (hb2.mono Hb1.out.size))
          obtain ⟨⟨t0, t1, t2, t3⟩, _, _, _, _⟩ := ((HI1.out.below Hb1.out).below hb2).b0.four
          clear hb2 z0 z1 z2 z3
          go_wp2_with fail
          refine (HN.out _ Hb2.out).mono ?_
          rintro e v3 ⟨rfl, hb3⟩
          have HI2 := Lib.hid ((HI1.out.below Hb2.out).below hb3).drop
          clear hb3 t0 t1 t2 t3
          go_wp2_with fail
          go_end0
          refine ⟨rfl, ?_⟩
          rw [HTT.out, if_neg (by simp; omega)]
          exact HI2.out
  · have e1 : ((σ.err : Int) != 0) = true := by simpa using herr
    have hTT : T = σ := by rw [← hT]; unfold PP.limitP; rw [if_neg herr]
    have HTT := Lib.hid hTT
    have HI1 := Lib.hid I1.drop
    clear hTT hT I1 h hm hs herr
    go_enter Tryd.func97, Tryd.ntmps97
    go_wp2_with fail
    refine bodyPost_ret (results_none rfl _ _ _) rfl ?_
    refine ⟨rfl, ?_⟩
    rw [HTT.out]
    exact HI1.out
end
end Go.Proofs.YtaaaicpjlaeiiaaDoor
