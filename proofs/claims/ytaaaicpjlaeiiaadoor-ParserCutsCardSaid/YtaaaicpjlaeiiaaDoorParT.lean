/- The contracts of the parser's lists of arrays and of tasks (written by wip/genlist.py). -/
import Derived.Test.YtaaaicpjlaeiiaaDoorParS
namespace Go.Proofs.YtaaaicpjlaeiiaaDoor
open Go.RowKit Go.Maps
open PP (Tree ArrD TaskD)

section
variable {w0 : World} {Z : Nat → Prop} {b : Nat} {X : Loc} {E : PP.Env} {σ : PP.St} {bl : List OwnB} {ks : List (Option Addr × List Tree)} {W : World}
variable {g g1 g2 g3 : Nat} {t t1 t2 t3 : TypeId} {cs c1 c2 c3 : Array Value}
theorem Inv.b3 (h : Inv w0 Z b X E σ ((g1, t1, c1) :: (g2, t2, c2) :: (g3, t3, c3) :: (g, t, cs) :: bl) ks W) : Blk W g t cs := h.blk (x := (g, t, cs)) (by simp)
end
/-- The state in which a list reads its next construct. -/
def sigL (E : PP.Env) (lim j : Nat) (σ : PP.St) : PP.St := if lim < j + 1 then PP.fail σ (PP.here E σ) 5 else σ
theorem sigL_next (E : PP.Env) (lim j : Nat) (σ : PP.St) : (sigL E lim j σ).next = σ.next := by
  unfold sigL PP.fail
  repeat' split
  all_goals rfl
theorem fail5_inv {w0 : World} {Z : Nat → Prop} {b : Nat} {X : Loc} {E : PP.Env} {σ : PP.St} {bl : List OwnB} {ks : List (Option Addr × List Tree)} {W : World} (h : Inv w0 Z b X E σ bl ks W) :
    Calls Tryd.prog 95 #[.pointer (some ⟨b, 0, none⟩), .int .i64 (PP.here E σ : Int), .int .i64 5] W fun r w' => r = .returned (.tuple #[]) ∧ Inv w0 Z b X E (PP.fail σ (PP.here E σ) 5) bl ks w' := fail_inv _ 5 h
theorem Blk.one {w : World} {g : Nat} {t : TypeId} {a : Value} (h : Blk w g t #[a]) : w.cell? ⟨g, 0, none⟩ = some a := h.cell 0
theorem permH {α : Type} (r : α) (v a l : List α) : (v ++ (a ++ (r :: l))).Perm (r :: (v ++ (a ++ l))) := by
  rw [← List.append_assoc, ← List.append_assoc]
  exact List.perm_middle
section
set_option maxHeartbeats 2000000
set_option maxRecDepth 100000
variable {w0 : World} {Z : Nat → Prop} {b : Nat} {X : Loc} {E : PP.Env} {σ : PP.St} {bl : List OwnB} {ks : List (Option Addr × List Tree)} {W : World}
theorem begins_inv (s : ByteArray) (h : Inv w0 Z b X E σ bl ks W) {n : Nat} (hn : W.heap.size = n) :
    Calls Tryd.prog 66 #[.pointer (some ⟨b, 0, none⟩), .string s] W fun r w' => r = .returned (.func (.func 100) #[] #[.pointer (some ⟨n, 0, none⟩), .pointer (some ⟨n + 1, 0, none⟩)]) ∧
      Inv w0 Z b X E σ ((n + 1, 9, #[.string s]) :: (n, 95, #[.pointer (some ⟨b, 0, none⟩)]) :: bl) ks w' := by
  subst hn
  have hmf : ∀ (fn : Fn) (first cap : Array Value) (w : World), (Instr.makeFunc fn first cap).run Tryd.prog w = .ok (.func fn first cap) w := fun _ _ _ _ => rfl
  have HI := Lib.hid ((h.alloc #[.pointer (some ⟨b, 0, none⟩)] 95 rfl).alloc #[.string s] 9 (n := W.heap.size + 1) (by simp))
  clear h
  go_enter Tryd.func66, Tryd.ntmps66
  go_wp2_with fail
  go_ret
  exact ⟨rfl, HI.out⟩
theorem begins1_inv (s : ByteArray) {B1 B2 : Nat} (h : Inv w0 Z b X E σ bl ks W) (m1 : (B1, 95, #[.pointer (some ⟨b, 0, none⟩)]) ∈ bl) (m2 : (B2, 9, #[.string s]) ∈ bl) {t : Bool} (ht : PP.sees E σ s.data.toList = t) :
    Calls Tryd.prog 100 #[.pointer (some ⟨B1, 0, none⟩), .pointer (some ⟨B2, 0, none⟩)] W fun r w' => r = .returned (.bool t) ∧ Inv w0 Z b X E σ bl ks w' := by
  have c1 : W.cell? ⟨B1, 0, none⟩ = some (.pointer (some ⟨b, 0, none⟩)) := (h.blk m1).cell 0
  have c2 : W.cell? ⟨B2, 0, none⟩ = some (.string s) := (h.blk m2).cell 0
  have HS := Lib.hid (sees_b s ht h)
  clear h m1 m2 ht
  go_enter Tryd.func100, Tryd.ntmps100
  go_wp2_with fail
  refine HS.out.mono ?_
  rintro e w1 ⟨rfl, I1⟩
  have HI1 := Lib.hid I1
  clear I1
  go_wp2_with fail
  go_ret
  exact ⟨rfl, HI1.out⟩
theorem cf_begins (u v : Value) (W : World) : Sem.run Tryd.prog (callFunc 100 #[u, v]) W = .ok (Next.enter 100 #[u, v]) W := by kernel_rfl
theorem cf_oneA (v : Value) (W : World) : Sem.run Tryd.prog (callFunc 67 #[v]) W = .ok (Next.enter 67 #[v]) W := by kernel_rfl
theorem cf_cloA (x y u v : Value) (W : World) : Sem.run Tryd.prog (callFunc 99 #[x, y, u, v]) W = .ok (Next.enter 99 #[x, y, u, v]) W := by kernel_rfl
def CloEndA (w0 : World) (Z : Nat → Prop) (b : Nat) (X : Loc) (E : PP.Env) (σ : PP.St) (bl : List OwnB) (ks : List (Option Addr × List Tree)) (r : Ending) (w' : World) : Prop :=
  r = .returned (.agg #[.string ⟨(PP.arrayP E σ).2.name.toArray⟩, .int .i64 (PP.arrayP E σ).2.len]) ∧ Inv w0 Z b X E (PP.arrayP E σ).1 bl ks w'
theorem cloA_inv {Bc Bl Bp Bo lim j : Nat} (h : Inv w0 Z b X E σ ((Bc, 3, #[.int .i64 ((j : Int))]) :: (Bl, 3, #[.int .i64 (lim : Int)]) :: (Bp, 95, #[.pointer (some ⟨b, 0, none⟩)]) :: (Bo, 104, #[.func (.func 67) #[.pointer (some ⟨b, 0, none⟩)] #[]]) :: bl) ks W) (hlt : σ.next < E.ts.length) (hj : j ≤ 1000000) :
    Calls Tryd.prog 99 #[.pointer (some ⟨Bc, 0, none⟩), .pointer (some ⟨Bl, 0, none⟩), .pointer (some ⟨Bp, 0, none⟩), .pointer (some ⟨Bo, 0, none⟩)] W (CloEndA w0 Z b X E (sigL E lim j σ) ((Bc, 3, #[.int .i64 ((j : Int) + 1)]) :: (Bl, 3, #[.int .i64 (lim : Int)]) :: (Bp, 95, #[.pointer (some ⟨b, 0, none⟩)]) :: (Bo, 104, #[.func (.func 67) #[.pointer (some ⟨b, 0, none⟩)] #[]]) :: bl) ks) := by
  have hcf := fun (v : Value) (W : World) => cf_oneA v W
  have I0 := h.alloc #[.string ⟨#[]⟩, .int .i64 0] 89 rfl
  have c0 : (W.alloc (.cells #[.string ⟨#[]⟩, .int .i64 0] 89)).cell? ⟨Bc, 0, none⟩ = some (.int .i64 (j : Int)) := I0.b1.cell 0
  have f0 := I0.b1.frozen 0
  have I1 : Inv w0 Z b X E σ ((W.heap.size, 89, #[.string ⟨#[]⟩, .int .i64 0]) :: (Bc, 3, #[.int .i64 ((j : Int) + 1)]) :: (Bl, 3, #[.int .i64 (lim : Int)]) :: (Bp, 95, #[.pointer (some ⟨b, 0, none⟩)]) :: (Bo, 104, #[.func (.func 67) #[.pointer (some ⟨b, 0, none⟩)] #[]]) :: bl) ks _ := I0.set1 0 (.int .i64 ((j : Int) + 1))
  have hBc : Bc < W.heap.size := h.b0.lt
  have hnx := sigL_next E lim j σ
  rw [World.setCell_alloc_past _ _ _ _ hBc] at I1
  have HI1 := Lib.hid I1
  have c1 : W.cell? ⟨Bc, 0, none⟩ = some (.int .i64 (j : Int)) := h.b0.cell 0
  have f1 := h.b0.frozen 0
  have c2 : W.cell? ⟨Bl, 0, none⟩ = some (.int .i64 (lim : Int)) := h.b1.cell 0
  have hne : Bl ≠ Bc := by
    have := h.nd
    simp at this
    omega
  have hBl : Bl < W.heap.size := h.b1.lt
  have c5 : W.cell? ⟨Bo, 0, none⟩ = some (.func (.func 67) #[.pointer (some ⟨b, 0, none⟩)] #[]) := h.b3.cell 0
  have hBo : Bo < W.heap.size := h.b3.lt
  have hBoc : Bo ≠ Bc := by
    have := h.nd
    simp at this
    omega
  clear h I0 I1
  by_cases hc : lim < j + 1
  · have x1 : decide ((lim : Int) < (j : Int) + 1) = true := by simp; omega
    have x2 : decide (lim < j + 1) = true := by simp; omega
    go_enter Tryd.func99, Tryd.ntmps99
    go_wp2_with fail
    generalize ((W.setCell ⟨Bc, 0, none⟩ (.int .i64 ((j : Int) + 1))).alloc (.cells #[.string ⟨#[]⟩, .int .i64 0] 89)) = w1 at *
    have c3 : w1.cell? ⟨Bp, 0, none⟩ = some (.pointer (some ⟨b, 0, none⟩)) := HI1.out.b3.cell 0
    have HH := Lib.hid (here_inv HI1.out)
    have HHd := Lib.hid (here_inv HI1.out.drew)
    clear c0 f0 c1 f1 c2
    go_region_held3 (fun W => W.cell? ⟨Bp, 0, none⟩ = some (.pointer (some ⟨b, 0, none⟩)))
      (with_reducible first | exact HI1.out.b3.one | exact HI1.out.drew.b3.one | exact I2.b3.one | exact I3.b3.one)
      (first | (go_at_call 96; (first | (with_reducible refine HH.out.mono ?_) | (with_reducible refine HHd.out.mono ?_)); rintro e w2 ⟨rfl, I2⟩) | (go_at_call 95; (with_reducible refine (fail5_inv I2).mono ?_); rintro e w3 ⟨rfl, I3⟩))
    have hsig : sigL E lim j σ = PP.fail σ (PP.here E σ) 5 := by unfold sigL; rw [if_pos hc]
    have I4 : Inv w0 Z b X E (sigL E lim j σ) _ _ w3 := hsig ▸ I3
    have HI4 := Lib.hid I4
    clear I2 I3 I4 HH HHd HI1 hsig c3
    have c4 : w3.cell? ⟨Bo, 0, none⟩ = some (.func (.func 67) #[.pointer (some ⟨b, 0, none⟩)] #[]) := (HI4.out.blk (x := (Bo, 104, #[.func (.func 67) #[.pointer (some ⟨b, 0, none⟩)] #[]])) (by simp)).cell 0
    go_wp2_with fail
    refine (array_inv HI4.out (by rw [hnx]; exact hlt)).mono ?_
    rintro e w6 ⟨rfl, I6⟩
    have r0 : w6.cell? ⟨W.heap.size, 0, none⟩ = some (.string ⟨#[]⟩) := I6.b0.cell 0
    have r1 : w6.cell? ⟨W.heap.size, 1, none⟩ = some (.int .i64 0) := I6.b0.cell 1
    have q0 := I6.b0.frozen 0
    have q1 := I6.b0.frozen 1
    have HQ := Lib.hid (fun v0 v1 => (show Inv w0 Z b X E _ ((W.heap.size, 89, #[v0, v1]) :: _) ks _ from (I6.set0 0 v0).set0 1 v1))
    clear I6 HI4
    go_wp2_with fail
    refine bodyPost_ret (array_result rfl rfl (HQ.out _ _).b0) rfl ?_
    exact ⟨rfl, (HQ.out _ _).drop⟩
  · have x1 : decide ((lim : Int) < (j : Int) + 1) = false := by simp; omega
    have x2 : decide (lim < j + 1) = false := by simp; omega
    go_enter Tryd.func99, Tryd.ntmps99
    have hsig : sigL E lim j σ = σ := by unfold sigL; rw [if_neg hc]
    have HI4 : Hid (Inv w0 Z b X E (sigL E lim j σ) _ _ _) := Lib.hid (hsig.symm ▸ HI1.out)
    clear hsig HI1
    go_wp2_with fail
    generalize ((W.setCell ⟨Bc, 0, none⟩ (.int .i64 ((j : Int) + 1))).alloc (.cells #[.string ⟨#[]⟩, .int .i64 0] 89)) = w3 at *
    refine (array_inv HI4.out (by rw [hnx]; exact hlt)).mono ?_
    rintro e w6 ⟨rfl, I6⟩
    have r0 : w6.cell? ⟨W.heap.size, 0, none⟩ = some (.string ⟨#[]⟩) := I6.b0.cell 0
    have r1 : w6.cell? ⟨W.heap.size, 1, none⟩ = some (.int .i64 0) := I6.b0.cell 1
    have q0 := I6.b0.frozen 0
    have q1 := I6.b0.frozen 1
    have HQ := Lib.hid (fun v0 v1 => (show Inv w0 Z b X E _ ((W.heap.size, 89, #[v0, v1]) :: _) ks _ from (I6.set0 0 v0).set0 1 v1))
    clear I6 HI4
    go_wp2_with fail
    refine bodyPost_ret (array_result rfl rfl (HQ.out _ _).b0) rfl ?_
    exact ⟨rfl, (HQ.out _ _).drop⟩
theorem cf_oneT (v : Value) (W : World) : Sem.run Tryd.prog (callFunc 69 #[v]) W = .ok (Next.enter 69 #[v]) W := by kernel_rfl
theorem cf_cloT (x y u v : Value) (W : World) : Sem.run Tryd.prog (callFunc 106 #[x, y, u, v]) W = .ok (Next.enter 106 #[x, y, u, v]) W := by kernel_rfl
theorem cloT_inv {Bc Bl Bp Bo lim j : Nat} (h : Inv w0 Z b X E σ ((Bc, 3, #[.int .i64 ((j : Int))]) :: (Bl, 3, #[.int .i64 (lim : Int)]) :: (Bp, 95, #[.pointer (some ⟨b, 0, none⟩)]) :: (Bo, 106, #[.func (.func 69) #[.pointer (some ⟨b, 0, none⟩)] #[]]) :: bl) ks W) (hlt : σ.next < E.ts.length) (hj : j ≤ 1000000) :
    Calls Tryd.prog 106 #[.pointer (some ⟨Bc, 0, none⟩), .pointer (some ⟨Bl, 0, none⟩), .pointer (some ⟨Bp, 0, none⟩), .pointer (some ⟨Bo, 0, none⟩)] W (TaskEnd w0 Z b X E (sigL E lim j σ) ((Bc, 3, #[.int .i64 ((j : Int) + 1)]) :: (Bl, 3, #[.int .i64 (lim : Int)]) :: (Bp, 95, #[.pointer (some ⟨b, 0, none⟩)]) :: (Bo, 106, #[.func (.func 69) #[.pointer (some ⟨b, 0, none⟩)] #[]]) :: bl) ks) := by
  have hcf := fun (v : Value) (W : World) => cf_oneT v W
  have I0 := h.alloc #[.string ⟨#[]⟩, .int .i64 0, .slice none 0 0, .slice none 0 0, .int .u8 0, .int .i64 0, .string ⟨#[]⟩, .slice none 0 0] 91 rfl
  have c0 : (W.alloc (.cells #[.string ⟨#[]⟩, .int .i64 0, .slice none 0 0, .slice none 0 0, .int .u8 0, .int .i64 0, .string ⟨#[]⟩, .slice none 0 0] 91)).cell? ⟨Bc, 0, none⟩ = some (.int .i64 (j : Int)) := I0.b1.cell 0
  have f0 := I0.b1.frozen 0
  have I1 : Inv w0 Z b X E σ ((W.heap.size, 91, #[.string ⟨#[]⟩, .int .i64 0, .slice none 0 0, .slice none 0 0, .int .u8 0, .int .i64 0, .string ⟨#[]⟩, .slice none 0 0]) :: (Bc, 3, #[.int .i64 ((j : Int) + 1)]) :: (Bl, 3, #[.int .i64 (lim : Int)]) :: (Bp, 95, #[.pointer (some ⟨b, 0, none⟩)]) :: (Bo, 106, #[.func (.func 69) #[.pointer (some ⟨b, 0, none⟩)] #[]]) :: bl) ks _ := I0.set1 0 (.int .i64 ((j : Int) + 1))
  have hBc : Bc < W.heap.size := h.b0.lt
  have hnx := sigL_next E lim j σ
  rw [World.setCell_alloc_past _ _ _ _ hBc] at I1
  have HI1 := Lib.hid I1
  have c1 : W.cell? ⟨Bc, 0, none⟩ = some (.int .i64 (j : Int)) := h.b0.cell 0
  have f1 := h.b0.frozen 0
  have c2 : W.cell? ⟨Bl, 0, none⟩ = some (.int .i64 (lim : Int)) := h.b1.cell 0
  have hne : Bl ≠ Bc := by
    have := h.nd
    simp at this
    omega
  have hBl : Bl < W.heap.size := h.b1.lt
  have c5 : W.cell? ⟨Bo, 0, none⟩ = some (.func (.func 69) #[.pointer (some ⟨b, 0, none⟩)] #[]) := h.b3.cell 0
  have hBo : Bo < W.heap.size := h.b3.lt
  have hBoc : Bo ≠ Bc := by
    have := h.nd
    simp at this
    omega
  clear h I0 I1
  by_cases hc : lim < j + 1
  · have x1 : decide ((lim : Int) < (j : Int) + 1) = true := by simp; omega
    have x2 : decide (lim < j + 1) = true := by simp; omega
    go_enter Tryd.func106, Tryd.ntmps106
    go_wp2_with fail
    generalize ((W.setCell ⟨Bc, 0, none⟩ (.int .i64 ((j : Int) + 1))).alloc (.cells #[.string ⟨#[]⟩, .int .i64 0, .slice none 0 0, .slice none 0 0, .int .u8 0, .int .i64 0, .string ⟨#[]⟩, .slice none 0 0] 91)) = w1 at *
    have c3 : w1.cell? ⟨Bp, 0, none⟩ = some (.pointer (some ⟨b, 0, none⟩)) := HI1.out.b3.cell 0
    have HH := Lib.hid (here_inv HI1.out)
    have HHd := Lib.hid (here_inv HI1.out.drew)
    clear c0 f0 c1 f1 c2
    go_region_held3 (fun W => W.cell? ⟨Bp, 0, none⟩ = some (.pointer (some ⟨b, 0, none⟩)))
      (with_reducible first | exact HI1.out.b3.one | exact HI1.out.drew.b3.one | exact I2.b3.one | exact I3.b3.one)
      (first | (go_at_call 96; (first | (with_reducible refine HH.out.mono ?_) | (with_reducible refine HHd.out.mono ?_)); rintro e w2 ⟨rfl, I2⟩) | (go_at_call 95; (with_reducible refine (fail5_inv I2).mono ?_); rintro e w3 ⟨rfl, I3⟩))
    have hsig : sigL E lim j σ = PP.fail σ (PP.here E σ) 5 := by unfold sigL; rw [if_pos hc]
    have I4 : Inv w0 Z b X E (sigL E lim j σ) _ _ w3 := hsig ▸ I3
    have HI4 := Lib.hid I4
    clear I2 I3 I4 HH HHd HI1 hsig c3
    have c4 : w3.cell? ⟨Bo, 0, none⟩ = some (.func (.func 69) #[.pointer (some ⟨b, 0, none⟩)] #[]) := (HI4.out.blk (x := (Bo, 106, #[.func (.func 69) #[.pointer (some ⟨b, 0, none⟩)] #[]])) (by simp)).cell 0
    go_wp2_with fail
    refine (task_inv HI4.out (by rw [hnx]; exact hlt)).mono ?_
    rintro e w6 ⟨σ6, nm, per, vs, ar, kids, A, c, vv, va, bv, ba, rfl, hrv, hra, hlv, hla, I6, ht, hnn⟩
    have I7 := I6.perm (permH _ _ _ _)
    have r0 : w6.cell? ⟨W.heap.size, 0, none⟩ = some (.string ⟨#[]⟩) := I7.b0.cell 0
    have q0 := I7.b0.frozen 0
    have r1 : w6.cell? ⟨W.heap.size, 1, none⟩ = some (.int .i64 0) := I7.b0.cell 1
    have q1 := I7.b0.frozen 1
    have r2 : w6.cell? ⟨W.heap.size, 2, none⟩ = some (.slice none 0 0) := I7.b0.cell 2
    have q2 := I7.b0.frozen 2
    have r3 : w6.cell? ⟨W.heap.size, 3, none⟩ = some (.slice none 0 0) := I7.b0.cell 3
    have q3 := I7.b0.frozen 3
    have r4 : w6.cell? ⟨W.heap.size, 4, none⟩ = some (.int .u8 0) := I7.b0.cell 4
    have q4 := I7.b0.frozen 4
    have r5 : w6.cell? ⟨W.heap.size, 5, none⟩ = some (.int .i64 0) := I7.b0.cell 5
    have q5 := I7.b0.frozen 5
    have r6 : w6.cell? ⟨W.heap.size, 6, none⟩ = some (.string ⟨#[]⟩) := I7.b0.cell 6
    have q6 := I7.b0.frozen 6
    have r7 : w6.cell? ⟨W.heap.size, 7, none⟩ = some (.slice none 0 0) := I7.b0.cell 7
    have q7 := I7.b0.frozen 7
    have HQ := Lib.hid (fun v0 v1 v2 v3 v4 v5 v6 v7 => (show Inv w0 Z b X E _ ((W.heap.size, 91, #[v0, v1, v2, v3, v4, v5, v6, v7]) :: _) _ _ from (((((((I7.set0 0 v0).set0 1 v1).set0 2 v2).set0 3 v3).set0 4 v4).set0 5 v5).set0 6 v6).set0 7 v7))
    have HX := Lib.hid (show RowV _ _ _ _ _ _ _ ∧ RowV _ _ _ _ _ _ _ ∧ _ from ⟨hrv, hra, ht⟩)
    obtain ⟨Av, cv, rfl⟩ := hrv.form
    obtain ⟨Aa, ca, rfl⟩ := hra.form
    clear I6 I7 HI4 hrv hra ht
    go_wp2_with fail
    refine bodyPost_ret (task_result rfl rfl (HQ.out _ _ _ _ _ _ _ _).b0) rfl ?_
    exact ⟨σ6, nm, per, vs, ar, kids, A, c, _, _, bv, ba, rfl, HX.out.1, HX.out.2.1, hlv, hla, (HQ.out _ _ _ _ _ _ _ _).drop, HX.out.2.2, hnn⟩
  · have x1 : decide ((lim : Int) < (j : Int) + 1) = false := by simp; omega
    have x2 : decide (lim < j + 1) = false := by simp; omega
    go_enter Tryd.func106, Tryd.ntmps106
    have hsig : sigL E lim j σ = σ := by unfold sigL; rw [if_neg hc]
    have HI4 : Hid (Inv w0 Z b X E (sigL E lim j σ) _ _ _) := Lib.hid (hsig.symm ▸ HI1.out)
    clear hsig HI1
    go_wp2_with fail
    generalize ((W.setCell ⟨Bc, 0, none⟩ (.int .i64 ((j : Int) + 1))).alloc (.cells #[.string ⟨#[]⟩, .int .i64 0, .slice none 0 0, .slice none 0 0, .int .u8 0, .int .i64 0, .string ⟨#[]⟩, .slice none 0 0] 91)) = w3 at *
    refine (task_inv HI4.out (by rw [hnx]; exact hlt)).mono ?_
    rintro e w6 ⟨σ6, nm, per, vs, ar, kids, A, c, vv, va, bv, ba, rfl, hrv, hra, hlv, hla, I6, ht, hnn⟩
    have I7 := I6.perm (permH _ _ _ _)
    have r0 : w6.cell? ⟨W.heap.size, 0, none⟩ = some (.string ⟨#[]⟩) := I7.b0.cell 0
    have q0 := I7.b0.frozen 0
    have r1 : w6.cell? ⟨W.heap.size, 1, none⟩ = some (.int .i64 0) := I7.b0.cell 1
    have q1 := I7.b0.frozen 1
    have r2 : w6.cell? ⟨W.heap.size, 2, none⟩ = some (.slice none 0 0) := I7.b0.cell 2
    have q2 := I7.b0.frozen 2
    have r3 : w6.cell? ⟨W.heap.size, 3, none⟩ = some (.slice none 0 0) := I7.b0.cell 3
    have q3 := I7.b0.frozen 3
    have r4 : w6.cell? ⟨W.heap.size, 4, none⟩ = some (.int .u8 0) := I7.b0.cell 4
    have q4 := I7.b0.frozen 4
    have r5 : w6.cell? ⟨W.heap.size, 5, none⟩ = some (.int .i64 0) := I7.b0.cell 5
    have q5 := I7.b0.frozen 5
    have r6 : w6.cell? ⟨W.heap.size, 6, none⟩ = some (.string ⟨#[]⟩) := I7.b0.cell 6
    have q6 := I7.b0.frozen 6
    have r7 : w6.cell? ⟨W.heap.size, 7, none⟩ = some (.slice none 0 0) := I7.b0.cell 7
    have q7 := I7.b0.frozen 7
    have HQ := Lib.hid (fun v0 v1 v2 v3 v4 v5 v6 v7 => (show Inv w0 Z b X E _ ((W.heap.size, 91, #[v0, v1, v2, v3, v4, v5, v6, v7]) :: _) _ _ from (((((((I7.set0 0 v0).set0 1 v1).set0 2 v2).set0 3 v3).set0 4 v4).set0 5 v5).set0 6 v6).set0 7 v7))
    have HX := Lib.hid (show RowV _ _ _ _ _ _ _ ∧ RowV _ _ _ _ _ _ _ ∧ _ from ⟨hrv, hra, ht⟩)
    obtain ⟨Av, cv, rfl⟩ := hrv.form
    obtain ⟨Aa, ca, rfl⟩ := hra.form
    clear I6 I7 HI4 hrv hra ht
    go_wp2_with fail
    refine bodyPost_ret (task_result rfl rfl (HQ.out _ _ _ _ _ _ _ _).b0) rfl ?_
    exact ⟨σ6, nm, per, vs, ar, kids, A, c, _, _, bv, ba, rfl, HX.out.1, HX.out.2.1, hlv, hla, (HQ.out _ _ _ _ _ _ _ _).drop, HX.out.2.2, hnn⟩
end
end Go.Proofs.YtaaaicpjlaeiiaaDoor
