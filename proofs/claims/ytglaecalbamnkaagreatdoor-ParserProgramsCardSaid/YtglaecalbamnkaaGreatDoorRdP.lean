/- The contract of the reader's array. -/
import Derived.Test.YtglaecalbamnkaaGreatDoorRdJ
namespace Go.Proofs.YtglaecalbamnkaaGreatDoor
open Go.RowKit Go.Maps
open PP (Tree ArrD TaskD)
namespace PP
/-- The rest of a declaration of an array, behind its keyword. -/
def arrQ (E : Env) (σ : St) : St × ArrD :=
  let a := nameP E σ
  let v := numP E (require E a.1 [91]) 1 32
  (require E (require E v.1 [93]) [59], ⟨a.2, v.2⟩)
theorem arrayP_q (E : Env) (σ : St) : arrayP E σ = arrQ E (adv σ) := rfl
end PP
section
set_option maxHeartbeats 2000000
set_option maxRecDepth 100000
variable {w0 : World} {Z : Nat → Prop} {b : Nat} {Y : RLoc} {E : PP.Env} {σ : PP.St} {bl : List OwnB} {ks : List (Option Addr × List Tree)} {W : World}
theorem rfail_inv (o e : Nat) (he : e ≠ 0) (h : RInv w0 Z b Y E σ bl ks W) :
    Calls Tryz.prog 51 #[.pointer (some ⟨b, 0, none⟩), .int .i64 (o : Int), .int .i64 (e : Int)] W fun r w' => r = .returned (.tuple #[]) ∧ RInv w0 Z b Y E (PP.fail σ o e) bl ks w' :=
  (rfail_any o e he W h.ps).mono fun _ _ ⟨h1, h2, h3⟩ => ⟨h1, h.call h2 h3⟩
theorem rarray_inv (h : RInv w0 Z b Y E σ bl ks W) :
    Calls Tryz.prog 21 #[.pointer (some ⟨b, 0, none⟩)] W fun r w' => r = .returned (.agg #[.string ⟨(PP.arrQ E σ).2.name.toArray⟩, .int .i64 (PP.arrQ E σ).2.len]) ∧ RInv w0 Z b Y E (PP.arrQ E σ).1 bl ks w' := by
  have HI1 := Lib.hid (h.alloc #[.string ⟨#[]⟩, .int .i64 0] 43 rfl)
  generalize hT : PP.arrQ E σ = T at *
  have HT := Lib.hid hT
  clear hT h
  go_enter Tryz.func21, Tryz.ntmps21
  go_wp2_with fail
  refine (rname_inv HI1.out).mono ?_
  rintro e w3 ⟨rfl, I3⟩
  generalize hq : PP.nameP E σ = q at *
  obtain ⟨σ3, nm⟩ := q
  have Hq := Lib.hid hq
  have HI3 := Lib.hid (show RInv w0 Z b Y E σ3 _ _ w3 from I3)
  clear I3 hq HI1
  go_wp2_with fail
  refine (rwant_inv ⟨#[91]⟩ (by simp) HI3.out).mono ?_
  rintro e w5 ⟨rfl, I5⟩
  have HI5 := Lib.hid I5
  clear I5 HI3
  go_wp2_with fail
  refine (rnum_inv 1 32 (by omega) HI5.out).mono ?_
  rintro e w6 ⟨rfl, I6⟩
  generalize hV : PP.numP E (PP.require E σ3 [91]) 1 32 = q at *
  obtain ⟨σ6, val⟩ := q
  have hV' : PP.numP E (PP.require E σ3 [91]) 1 32 = (σ6, val) := hV
  have HI6 := Lib.hid (show RInv w0 Z b Y E σ6 _ _ w6 from I6)
  have HV := Lib.hid hV'
  clear I6 HI5 hV hV'
  go_wp2_with fail
  refine (rwant_inv ⟨#[93]⟩ (by simp) HI6.out).mono ?_
  rintro e w8 ⟨rfl, I8⟩
  have HI8 := Lib.hid I8
  clear I8 HI6
  go_wp2_with fail
  refine (rwant_inv ⟨#[59]⟩ (by simp) HI8.out).mono ?_
  rintro e w9 ⟨rfl, I9⟩
  have r0 : w9.cell? ⟨W.heap.size, 0, none⟩ = some (.string ⟨#[]⟩) := I9.b0.cell 0
  have r1 : w9.cell? ⟨W.heap.size, 1, none⟩ = some (.int .i64 0) := I9.b0.cell 1
  have q0 := I9.b0.frozen 0
  have q1 := I9.b0.frozen 1
  have HQ := Lib.hid (fun v0 v1 => (show RInv w0 Z b Y E _ ((W.heap.size, 43, #[v0, v1]) :: bl) ks _ from (I9.set0 0 v0).set0 1 v1))
  clear I9 HI8
  go_wp2_with fail
  refine bodyPost_ret (array_result rfl rfl (HQ.out _ _).b0) rfl ?_
  have e1 : T = (PP.require E (PP.require E σ6 [93]) [59], ⟨nm, val⟩) := by
    rw [← HT.out]; unfold PP.arrQ; simp only []; rw [Hq.out]; simp only []; rw [HV.out]
  rw [e1]
  exact ⟨rfl, (HQ.out _ _).drop⟩
end
end Go.Proofs.YtglaecalbamnkaaGreatDoor
