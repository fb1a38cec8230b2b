/- The contract of the parser's task. -/
import Derived.Test.YtaaaicpjlaeiiaaDoorParR
import Derived.Test.YtaaaicpjlaeiiaaDoorPlainPar5
namespace Go.Proofs.YtaaaicpjlaeiiaaDoor
open Go.RowKit Go.Maps
open PP (Tree ArrD TaskD)

theorem task_result {fn : Func} {p : Tmp} (h : fn.results = #[.cell p 91]) {tmps : Array Value} {w : World} {g : Nat} {a0 a1 a2 a3 a4 a5 a6 a7 : Value} (hp : tmps.getD p undef = .pointer (some ⟨g, 0, none⟩)) (hb : Blk w g 91 #[a0, a1, a2, a3, a4, a5, a6, a7]) :
    (results fn tmps).run Tryd.prog w = .ok (.agg #[a0, a1, a2, a3, a4, a5, a6, a7]) w :=
  results_cell_row h tmps w g 91 _ (0, 0) _ hp hb Tryd.underlying91 rfl (by kernel_rfl)
theorem permR {α : Type} (t r : α) (v a l : List α) : (t :: (v ++ (a ++ (r :: l)))).Perm (t :: r :: (v ++ (a ++ l))) := by
  refine List.Perm.cons t ?_
  rw [← List.append_assoc, ← List.append_assoc]
  exact List.perm_middle
/-- What a task's reader leaves. -/
def TaskEnd (w0 : World) (Z : Nat → Prop) (b : Nat) (X : Loc) (E : PP.Env) (σ : PP.St) (bl : List OwnB) (ks : List (Option Addr × List Tree)) (r : Ending) (w' : World) : Prop :=
  ∃ σ' nm per vs ar kids A c vv va bv ba, r = .returned (.agg #[.string ⟨(nm : List UInt8).toArray⟩, .int .i64 per, vv, va, .int .u8 47, .int .i64 0, .string ⟨#[]⟩, .slice A (kids : List Tree).length c]) ∧
    RowV w0.heap.size 9 1 vv (vs : List (List UInt8)).length (strCells vs) bv ∧ RowV w0.heap.size 89 2 va (ar : List ArrD).length (arrCells ar) ba ∧ vs.length ≤ 12 ∧ ar.length ≤ 4 ∧
    Inv w0 Z b X E σ' (bv ++ (ba ++ bl)) ((A, kids) :: ks) w' ∧ (∃ n, PP.taskP E n σ = some (σ', ⟨nm, per, vs, ar, .node 47 0 [] kids⟩)) ∧ σ.next < σ'.next
section
set_option maxHeartbeats 2000000
set_option maxRecDepth 100000
variable {w0 : World} {Z : Nat → Prop} {b : Nat} {X : Loc} {E : PP.Env} {σ : PP.St} {bl : List OwnB} {ks : List (Option Addr × List Tree)} {W : World}
theorem task_inv (h : Inv w0 Z b X E σ bl ks W) (hlt : σ.next < E.ts.length) :
    Calls Tryd.prog 69 #[.pointer (some ⟨b, 0, none⟩)] W (TaskEnd w0 Z b X E σ bl ks) := by
  have hlen := h.ps.len
  have I0 := h.alloc #[.string ⟨#[]⟩, .int .i64 0, .slice none 0 0, .slice none 0 0, .int .u8 0, .int .i64 0, .string ⟨#[]⟩, .slice none 0 0] 91 rfl
  have cb := I0.ps.cells.2.1
  have fb := I0.ps.frozen 1
  have hbW := h.ps.lt
  have hbne : b ≠ W.heap.size := by omega
  have HI1 := Lib.hid ((h.adv hlt).alloc #[.string ⟨#[]⟩, .int .i64 0, .slice none 0 0, .slice none 0 0, .int .u8 0, .int .i64 0, .string ⟨#[]⟩, .slice none 0 0] 91 (n := W.heap.size) (by simp))
  have HI2 := Lib.hid (HI1.out.alloc #[.string ⟨#[]⟩, .int .i64 0, .slice none 0 0, .slice none 0 0, .int .u8 0, .int .i64 0, .string ⟨#[]⟩, .slice none 0 0] 91 (n := W.heap.size + 1) (by simp))
  clear h I0
  go_enter Tryd.func69, Tryd.ntmps69
  go_wp2_with fail
  refine (nameP_inv HI2.out).mono ?_
  rintro e w3 ⟨rfl, I3⟩
  generalize hq : PP.nameP E (PP.adv σ) = q at *
  obtain ⟨σ3, nm⟩ := q
  have l3 : σ.next + 1 ≤ σ3.next := by have := (PP.le_nameP E (PP.adv σ)).1; rw [hq] at this; exact this
  have Hq := Lib.hid hq
  have I3' : Inv w0 Z b X E σ3 _ _ w3 := I3
  have x0 : w3.cell? ⟨W.heap.size + 1, 0, none⟩ = some (.string ⟨#[]⟩) := I3'.b0.cell 0
  have x1 := I3'.b0.frozen 0
  have I4 : Inv w0 Z b X E σ3 ((W.heap.size + 1, 91, #[.string ⟨nm.toArray⟩, .int .i64 0, .slice none 0 0, .slice none 0 0, .int .u8 0, .int .i64 0, .string ⟨#[]⟩, .slice none 0 0]) :: _) _ _ := I3'.set0 0 (.string ⟨nm.toArray⟩)
  have HI4 := Lib.hid I4
  clear I4 I3 I3' hq cb fb HI1 HI2
  go_wp2_with fail
  refine (require_inv ⟨#[112, 101, 114, 105, 111, 100]⟩ HI4.out).mono ?_
  rintro e w5 ⟨rfl, I5⟩
  have HI5 := Lib.hid I5
  clear I5 HI4 x0 x1
  go_wp2_with fail
  refine (numP_inv 1 1000 (by omega) (by omega) (by omega) HI5.out).mono ?_
  rintro e w6 ⟨rfl, I6⟩
  generalize hV : PP.numP E (PP.require E σ3 [112, 101, 114, 105, 111, 100]) 1 1000 = q at *
  obtain ⟨σ6, val⟩ := q
  have hV' : PP.numP E (PP.require E σ3 [112, 101, 114, 105, 111, 100]) 1 1000 = (σ6, val) := hV
  have l6 : σ3.next ≤ σ6.next := by have h1 := (PP.le_require E σ3 [112, 101, 114, 105, 111, 100]).1; have h2 := (PP.le_numP E (PP.require E σ3 [112, 101, 114, 105, 111, 100]) 1 1000).1; rw [hV'] at h2; exact Nat.le_trans h1 h2
  have I6' : Inv w0 Z b X E σ6 _ _ w6 := I6
  have HV := Lib.hid hV'
  have x0 : w6.cell? ⟨W.heap.size + 1, 1, none⟩ = some (.int .i64 0) := I6'.b0.cell 1
  have x1 := I6'.b0.frozen 1
  have I7 : Inv w0 Z b X E σ6 ((W.heap.size + 1, 91, #[.string ⟨nm.toArray⟩, .int .i64 val, .slice none 0 0, .slice none 0 0, .int .u8 0, .int .i64 0, .string ⟨#[]⟩, .slice none 0 0]) :: _) _ _ := I6'.set0 1 (.int .i64 val)
  have HI7 := Lib.hid I7
  clear I7 I6 I6' HI5 hV hV'
  go_wp2_with fail
  refine (here_inv HI7.out).mono ?_
  rintro e w8 ⟨rfl, I8⟩
  have HI8 := Lib.hid I8
  clear I8 HI7 x0 x1
  go_wp2_with fail
  refine (require_inv ⟨#[123]⟩ HI8.out).mono ?_
  rintro e w9 ⟨rfl, I9⟩
  have HD := Lib.hid (declarations_inv (W.heap.size + 1) _ _ _ _ _ _ I9)
  clear I9 HI8
  go_wp2_with fail
  refine HD.out.mono ?_
  rintro e w10 ⟨σ10, vs, ar, vv, va, bv, ba, rfl, hrv, hra, I10, hlv, hla, md, hd⟩
  have I10' := I10.perm (permR _ _ _ _ _)
  have HST := Lib.hid (statements_any w10 I10'.gx I10'.ps)
  have HI10 := Lib.hid I10'
  have HRV := Lib.hid hrv
  have HRA := Lib.hid hra
  have Hd := Lib.hid hd
  clear I10 I10' hrv hra hd HD
  go_wp2_with fail
  refine HST.out.mono ?_
  rintro e w11 ⟨A, c, kids, σ11, rfl, hk, hp, hf, ⟨ms, hs⟩, hn⟩
  have I11 := HI10.out.tree hp hf hk
  have Hs := Lib.hid hs
  have t4 : w11.cell? ⟨W.heap.size + 1, 4, none⟩ = some (.int .u8 0) := I11.b0.cell 4
  have t5 : w11.cell? ⟨W.heap.size + 1, 5, none⟩ = some (.int .i64 0) := I11.b0.cell 5
  have t6 : w11.cell? ⟨W.heap.size + 1, 6, none⟩ = some (.string ⟨#[]⟩) := I11.b0.cell 6
  have t7 : w11.cell? ⟨W.heap.size + 1, 7, none⟩ = some (.slice none 0 0) := I11.b0.cell 7
  have f4 := I11.b0.frozen 4
  have f5 := I11.b0.frozen 5
  have f6 := I11.b0.frozen 6
  have f7 := I11.b0.frozen 7
  have I12 : Inv w0 Z b X E σ11 ((W.heap.size + 1, 91, #[.string ⟨nm.toArray⟩, .int .i64 val, vv, va, .int .u8 47, .int .i64 0, .string ⟨#[]⟩, .slice A kids.length c]) :: _) _ _ := (((I11.set0 4 (.int .u8 47)).set0 5 (.int .i64 0)).set0 6 (.string ⟨#[]⟩)).set0 7 (.slice A kids.length c)
  have HI12 := Lib.hid I12
  clear I11 I12 HI10 hk hp hf hs HST
  go_wp2_with fail
  refine (require_inv ⟨#[125]⟩ HI12.out).mono ?_
  rintro e w13 ⟨rfl, I13⟩
  have hsz : (PP.require E σ11 [125]).err = 0 → PP.sizeL kids ≤ 1000000 := by
    intro he
    have h1 := (PP.stmt_size E ms).1 _ _ _ _ Hs.out (PP.ok_back (PP.le_require E σ11 [125]) he)
    have h2 := I13.ps.next
    have h3 := (PP.le_require E σ11 [125]).1
    have h4 : PP.sizeL [] = 0 := rfl
    have h5 : (PP.require E σ11 (⟨#[125]⟩ : ByteArray).data.toList).next = (PP.require E σ11 [125]).next := rfl
    simp only at h1
    omega
  have HL := Lib.hid (limit_inv I13 (PP.here E σ6) 47 0 [] A c kids (by simp) hsz)
  have t4 : w13.cell? ⟨W.heap.size + 1, 4, none⟩ = some (.int .u8 47) := I13.b0.cell 4
  have t5 : w13.cell? ⟨W.heap.size + 1, 5, none⟩ = some (.int .i64 0) := I13.b0.cell 5
  have t6 : w13.cell? ⟨W.heap.size + 1, 6, none⟩ = some (.string ⟨#[]⟩) := I13.b0.cell 6
  have t7 : w13.cell? ⟨W.heap.size + 1, 7, none⟩ = some (.slice A kids.length c) := I13.b0.cell 7
  clear I13 HI12 f4 f5 f6 f7 hsz
  go_wp2_with fail
  refine HL.out.mono ?_
  rintro e w14 ⟨rfl, I14⟩
  have c0 : w14.cell? ⟨W.heap.size + 1, 0, none⟩ = some (.string ⟨nm.toArray⟩) := I14.b0.cell 0
  have c1 : w14.cell? ⟨W.heap.size + 1, 1, none⟩ = some (.int .i64 val) := I14.b0.cell 1
  have c2 : w14.cell? ⟨W.heap.size + 1, 2, none⟩ = some vv := I14.b0.cell 2
  have c3 : w14.cell? ⟨W.heap.size + 1, 3, none⟩ = some va := I14.b0.cell 3
  have c4 : w14.cell? ⟨W.heap.size + 1, 4, none⟩ = some (.int .u8 47) := I14.b0.cell 4
  have c5 : w14.cell? ⟨W.heap.size + 1, 5, none⟩ = some (.int .i64 0) := I14.b0.cell 5
  have c6 : w14.cell? ⟨W.heap.size + 1, 6, none⟩ = some (.string ⟨#[]⟩) := I14.b0.cell 6
  have c7 : w14.cell? ⟨W.heap.size + 1, 7, none⟩ = some (.slice A kids.length c) := I14.b0.cell 7
  have r0 : w14.cell? ⟨W.heap.size, 0, none⟩ = some (.string ⟨#[]⟩) := I14.b1.cell 0
  have r1 : w14.cell? ⟨W.heap.size, 1, none⟩ = some (.int .i64 0) := I14.b1.cell 1
  have r2 : w14.cell? ⟨W.heap.size, 2, none⟩ = some (.slice none 0 0) := I14.b1.cell 2
  have r3 : w14.cell? ⟨W.heap.size, 3, none⟩ = some (.slice none 0 0) := I14.b1.cell 3
  have r4 : w14.cell? ⟨W.heap.size, 4, none⟩ = some (.int .u8 0) := I14.b1.cell 4
  have r5 : w14.cell? ⟨W.heap.size, 5, none⟩ = some (.int .i64 0) := I14.b1.cell 5
  have r6 : w14.cell? ⟨W.heap.size, 6, none⟩ = some (.string ⟨#[]⟩) := I14.b1.cell 6
  have r7 : w14.cell? ⟨W.heap.size, 7, none⟩ = some (.slice none 0 0) := I14.b1.cell 7
  have q0 := I14.b1.frozen 0
  have q1 := I14.b1.frozen 1
  have q2 := I14.b1.frozen 2
  have q3 := I14.b1.frozen 3
  have q4 := I14.b1.frozen 4
  have q5 := I14.b1.frozen 5
  have q6 := I14.b1.frozen 6
  have q7 := I14.b1.frozen 7
  have HQ := Lib.hid (fun v0 v1 v2 v3 v4 v5 v6 v7 => (show Inv w0 Z b X E _ (_ :: (W.heap.size, 91, #[v0, v1, v2, v3, v4, v5, v6, v7]) :: (bv ++ (ba ++ bl))) ((A, kids) :: ks) _ from (((((((I14.set1 0 v0).set1 1 v1).set1 2 v2).set1 3 v3).set1 4 v4).set1 5 v5).set1 6 v6).set1 7 v7))
  clear I14 HL t4 t5 t6 t7
  obtain ⟨Av, cv, rfl⟩ := HRV.out.form
  obtain ⟨Aa, ca, rfl⟩ := HRA.out.form
  go_wp2_with fail
  refine bodyPost_ret (task_result rfl rfl (HQ.out _ _ _ _ _ _ _ _).b1) rfl ?_
  refine ⟨_, nm, val, vs, ar, kids, A, c, _, _, bv, ba, rfl, HRV.out, HRA.out, hlv, hla, (HQ.out _ _ _ _ _ _ _ _).drop.drop, ⟨max md ms, ?_⟩, ?_⟩
  · unfold PP.taskP
    have e1 : PP.decls E (max md ms) (PP.require E σ6 [123]) [] [] = some (σ10, vs, ar) := PP.decls_le E (Nat.le_max_left _ _) Hd.out
    have e2 : PP.stmts E (max md ms) false σ10 [] = some (σ11, kids) := PP.stmts_le E (Nat.le_max_right _ _) Hs.out
    generalize max md ms = M at *
    simp only []
    rw [Hq.out]
    simp only []
    rw [show PP.kwPeriod = [112, 101, 114, 105, 111, 100] from rfl, HV.out]
    simp only []
    rw [e1, Option.bind_some]
    simp only []
    rw [e2]; rfl
  · rw [PP.limitP_next]
    have h1 := PP.decls_next E md _ _ _ _ Hd.out
    have h2 := (PP.le_require E σ6 [123]).1
    have h3 := (PP.le_require E σ11 [125]).1
    have h4 : (PP.require E σ6 (⟨#[123]⟩ : ByteArray).data.toList).next = (PP.require E σ6 [123]).next := rfl
    have h5 : (PP.require E σ11 (⟨#[125]⟩ : ByteArray).data.toList).next = (PP.require E σ11 [125]).next := rfl
    simp only at h1
    omega
end
end Go.Proofs.YtaaaicpjlaeiiaaDoor
