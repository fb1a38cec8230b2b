/- The contract of the reader's task (written by wip/genrtask.py). -/
import Derived.Test.YtglaecalbamnkaaGreatDoorRdP
namespace Go.Proofs.YtglaecalbamnkaaGreatDoor
open Go.RowKit Go.Maps
open PP (Tree ArrD TaskD)
namespace PP
variable (E : Env)
/-- A task behind its keyword. -/
def taskQ (n : Nat) (σ : St) : Option (St × TaskD) :=
  let a := nameP E σ
  let v := numP E (require E a.1 kwPeriod) 1 1000
  (decls E n (require E v.1 [123]) [] []).bind fun d => (stmts E n false d.1 []).map fun r =>
    (limitP (.node 47 0 [] r.2) (here E v.1) (require E r.1 [125]), ⟨a.2, v.2, d.2.1, d.2.2, .node 47 0 [] r.2⟩)
theorem taskP_q (n : Nat) (σ : St) : taskP E n σ = taskQ E n (adv σ) := rfl
theorem stmts_stop {σ : St} (he : σ.err ≠ 0) (n : Nat) (acc : List Tree) : stmts E (n + 1) false σ acc = some (σ, acc) := by
  have hm : more E σ = false := by simp [more, he]
  rw [stmts, show goes E false σ = false by unfold goes; rw [hm]; rfl]; rfl
theorem decls_stop {σ : St} (he : σ.err ≠ 0) (n : Nat) (vs : List (List UInt8)) (ar : List ArrD) : decls E (n + 1) σ vs ar = some (σ, vs, ar) := by
  have hm : more E σ = false := by simp [more, he]
  rw [decls, show sees E σ kwVar = false by unfold sees; rw [hm]; rfl, show sees E σ kwArray = false by unfold sees; rw [hm]; rfl]; rfl
theorem decls_okb {n : Nat} {σ : St} {vs : List (List UInt8)} {ar : List ArrD} {r : St × List (List UInt8) × List ArrD} (h : decls E n σ vs ar = some r) (he : r.1.err = 0) : σ.err = 0 := by
  by_cases h0 : σ.err = 0
  · exact h0
  · cases n with
    | zero => simp [decls] at h
    | succ n =>
      rw [decls_stop E h0] at h
      have := Option.some.inj h
      rw [← this] at he; exact he
/-- A task whose declarations end with an error. -/
theorem taskQ_full {σ : St} {n : Nat} {d : St × List (List UInt8) × List ArrD} (h : decls E n (require E (numP E (require E (nameP E σ).1 kwPeriod) 1 1000).1 [123]) [] [] = some d) (he : d.1.err ≠ 0) :
    ∃ m td, taskQ E m σ = some (d.1, td) := by
  refine ⟨n + 1, ⟨(nameP E σ).2, (numP E (require E (nameP E σ).1 kwPeriod) 1 1000).2, d.2.1, d.2.2, .node 47 0 [] []⟩, ?_⟩
  unfold taskQ
  simp only []
  rw [decls_le E (Nat.le_succ n) h]
  simp only [Option.bind_some]
  rw [stmts_stop E he]
  simp only [Option.map_some]
  rw [show require E d.1 [125] = d.1 from (le_require E d.1 [125]).2 he]
  rw [show limitP (.node 47 0 [] []) (here E (numP E (require E (nameP E σ).1 kwPeriod) 1 1000).1) d.1 = d.1 by unfold limitP; rw [if_neg he]]
theorem taskQ_mk {σ σ3 σ6 σ' σ11 : St} {nm : List UInt8} {val : Int} {n1 n2 : Nat} {vs : List (List UInt8)} {ar : List ArrD} {t' : Tree} (h1 : nameP E σ = (σ3, nm)) (h2 : numP E (require E σ3 kwPeriod) 1 1000 = (σ6, val)) (hd : decls E n1 (require E σ6 [123]) [] [] = some (σ', vs, ar))
    (hs : ((stmts E n2 false σ' []).map fun r => (r.1, Tree.node 47 0 [] r.2)) = some (σ11, t')) : ∃ m, taskQ E m σ = some (limitP t' (here E σ6) (require E σ11 [125]), ⟨nm, val, vs, ar, t'⟩) := by
  obtain ⟨x, hx, hx2⟩ := Option.map_eq_some_iff.1 hs
  injection hx2 with e1 e2
  subst e1 e2
  refine ⟨max n1 n2, ?_⟩
  unfold taskQ
  simp only []
  rw [h1]
  simp only []
  rw [h2]
  simp only []
  rw [decls_le E (Nat.le_max_left n1 n2) hd]
  simp only [Option.bind_some]
  rw [stmts_le E (Nat.le_max_right n1 n2) hx]
  rfl
end PP
/-- What the reader of a task leaves. -/
def RTaskEnd (w0 : World) (Z : Nat → Prop) (b : Nat) (Y : RLoc) (E : PP.Env) (σ : PP.St) (bl : List OwnB) (ks : List (Option Addr × List Tree)) (r : Ending) (w' : World) : Prop :=
  ∃ σ' nm per vs ar k num bn kids A c vv va bv ba, r = .returned (.agg #[.string ⟨(nm : List UInt8).toArray⟩, .int .i64 per, vv, va, .int .u8 ((k : Nat) : Int), .int .i64 num, .string ⟨(bn : List UInt8).toArray⟩, .slice A (kids : List Tree).length c]) ∧
    RowV w0.heap.size 9 1 vv (vs : List (List UInt8)).length (strCells vs) bv ∧ RowV w0.heap.size 43 2 va (ar : List ArrD).length (arrCells ar) ba ∧ vs.length ≤ 12 ∧ ar.length ≤ 4 ∧
    RInv w0 Z b Y E σ' (bv ++ (ba ++ bl)) ((A, kids) :: ks) w' ∧ (∃ n td, PP.taskQ E n σ = some (σ', td) ∧ (σ'.err = 0 → td = ⟨nm, per, vs, ar, .node k num bn kids⟩)) ∧ (σ'.err ≠ 0 ∨ σ.next ≤ σ'.next)
theorem rleft_lt {E : PP.Env} {b : Nat} {Y : RLoc} {σ σ' : PP.St} {w w' : World} (h : RS w b Y E σ) (h' : RS w' b Y E σ') (he : σ.err = 0) (hlt : σ.next < E.ts.length) (hs : σ'.err ≠ 0 ∨ σ.next < σ'.next) : rleft b w' < rleft b w := by
  rw [rleft_of h, rleft_of h', if_pos he]
  rcases hs with hs | hs
  · rw [if_neg hs]; omega
  · split <;> omega
def RDeclRel (w0 : World) (Z : Nat → Prop) (b : Nat) (Y : RLoc) (E : PP.Env) (σ : PP.St) (bl : List OwnB) (ks : List (Option Addr × List Tree)) (T : Nat) (nm : List UInt8) (val : Int) (wr : World) : Prop :=
  ∃ σ' vs ar vv va bv ba, RowV w0.heap.size 9 1 vv (vs : List (List UInt8)).length (strCells vs) bv ∧ RowV w0.heap.size 43 2 va (ar : List ArrD).length (arrCells ar) ba ∧
    RInv w0 Z b Y E σ' ((T, 49, #[.string ⟨nm.toArray⟩, .int .i64 val, vv, va, .int .u8 0, .int .i64 0, .string ⟨#[]⟩, .slice none 0 0]) :: (bv ++ (ba ++ bl))) ks wr ∧ vs.length ≤ 12 ∧ ar.length ≤ 4 ∧ (σ'.err ≠ 0 ∨ σ.next ≤ σ'.next) ∧ ∀ n r, PP.decls E n σ' vs ar = some r → ∃ n', PP.decls E n' σ [] [] = some r
section
set_option maxHeartbeats 4000000
set_option maxRecDepth 100000
variable {w0 : World} {Z : Nat → Prop} {b : Nat} {Y : RLoc} {E : PP.Env} {σ : PP.St} {bl : List OwnB} {ks : List (Option Addr × List Tree)} {W : World}
theorem rtask_inv (h : RInv w0 Z b Y E σ bl ks W) :
    Calls Tryz.prog 23 #[.pointer (some ⟨b, 0, none⟩)] W (RTaskEnd w0 Z b Y E σ bl ks) := by
  have hfd := field_tok
  obtain ⟨i0, hi, hz0, hz1, hz2⟩ := info_parts infoStr
  obtain ⟨i1, ki, kz0, kz1, kz2⟩ := info_parts infoArr
  have H0 := Lib.hid hi
  have H1 := Lib.hid hz0
  have H2 := Lib.hid hz1
  have H3 := Lib.hid hz2
  have K0 := Lib.hid ki
  have K1 := Lib.hid kz0
  have K2 := Lib.hid kz1
  have K3 := Lib.hid kz2
  have hlen := h.ps.len
  have HI1 := Lib.hid (h.alloc #[.string ⟨#[]⟩, .int .i64 0, .slice none 0 0, .slice none 0 0, .int .u8 0, .int .i64 0, .string ⟨#[]⟩, .slice none 0 0] 49 rfl)
  clear h hi hz0 hz1 hz2 ki kz0 kz1 kz2
  go_enter Tryz.func23, Tryz.ntmps23
  go_wp2_with fail
  refine (rname_inv HI1.out).mono ?_
  rintro e w3 ⟨rfl, I3⟩
  generalize hq : PP.nameP E σ = q at *
  obtain ⟨σ3, nm⟩ := q
  have Hq := Lib.hid hq
  have L3 := Lib.hid (show σ.next ≤ σ3.next by have := (PP.le_nameP E σ).1; rw [hq] at this; exact this)
  have I3' : RInv w0 Z b Y E σ3 ((W.heap.size, 49, #[.string ⟨#[]⟩, .int .i64 0, .slice none 0 0, .slice none 0 0, .int .u8 0, .int .i64 0, .string ⟨#[]⟩, .slice none 0 0]) :: bl) ks w3 := I3
  have I4 := I3'.alloc #[.string ⟨nm.toArray⟩, .int .i64 0, .slice none 0 0, .slice none 0 0, .int .u8 0, .int .i64 0, .string ⟨#[]⟩, .slice none 0 0] 49 rfl
  generalize hTT : w3.heap.size = T at *
  have HI4 := Lib.hid I4
  clear I3 I3' I4 hq HI1
  go_wp2_with fail
  generalize w3.alloc (.cells #[.string ⟨nm.toArray⟩, .int .i64 0, .slice none 0 0, .slice none 0 0, .int .u8 0, .int .i64 0, .string ⟨#[]⟩, .slice none 0 0] 49) = w4 at *
  clear hTT
  refine (rwant_inv ⟨#[112, 101, 114, 105, 111, 100]⟩ (by simp) HI4.out).mono ?_
  rintro e w5 ⟨rfl, I5⟩
  have HI5 := Lib.hid I5
  clear I5 HI4
  go_wp2_with fail
  refine (rnum_inv 1 1000 (by omega) HI5.out).mono ?_
  rintro e w6 ⟨rfl, I6⟩
  generalize hV : PP.numP E (PP.require E σ3 [112, 101, 114, 105, 111, 100]) 1 1000 = q at *
  obtain ⟨σ6, val⟩ := q
  have hV' : PP.numP E (PP.require E σ3 [112, 101, 114, 105, 111, 100]) 1 1000 = (σ6, val) := hV
  have L6 := Lib.hid (show σ3.next ≤ σ6.next by have h1 := (PP.le_require E σ3 [112, 101, 114, 105, 111, 100]).1; have h2 := (PP.le_numP E (PP.require E σ3 [112, 101, 114, 105, 111, 100]) 1 1000).1; rw [hV'] at h2; exact Nat.le_trans h1 h2)
  have I6' : RInv w0 Z b Y E σ6 _ _ w6 := I6
  have HV := Lib.hid hV'
  have x0 : w6.cell? ⟨T, 1, none⟩ = some (.int .i64 0) := I6'.b0.cell 1
  have x1 := I6'.b0.frozen 1
  have I7 : RInv w0 Z b Y E σ6 ((T, 49, #[.string ⟨nm.toArray⟩, .int .i64 val, .slice none 0 0, .slice none 0 0, .int .u8 0, .int .i64 0, .string ⟨#[]⟩, .slice none 0 0]) :: _) _ _ := I6'.set0 1 (.int .i64 val)
  have HAT := Lib.hid (rat_any _ I7.ps)
  have HI7 := Lib.hid I7
  clear I7 I6 I6' HI5 hV hV'
  go_wp2_with fail
  refine HAT.out.mono ?_
  rintro e w8 ⟨po, rfl, hpo, rfl⟩
  have HPO := Lib.hid hpo
  clear HAT hpo
  go_wp2_with fail
  refine (rwant_inv ⟨#[123]⟩ (by simp) HI7.out).mono ?_
  rintro e w9 ⟨rfl, I9⟩
  have hst : RDeclRel w0 Z b Y E (PP.require E σ6 [123]) ((W.heap.size, 49, #[.string ⟨#[]⟩, .int .i64 0, .slice none 0 0, .slice none 0 0, .int .u8 0, .int .i64 0, .string ⟨#[]⟩, .slice none 0 0]) :: bl) ks T nm val w9 := ⟨_, [], [], _, _, [], [], RowV.nil _ _ _, RowV.nil _ _ _, I9, by simp, by simp, .inr (Nat.le_refl _), fun n r hr => ⟨n, hr⟩⟩
  have HST := Lib.hid hst
  have L9 := Lib.hid (show σ.next ≤ (PP.require E σ6 [123]).next by have h1 := (PP.le_require E σ6 [123]).1; have h2 := L3.out; have h3 := L6.out; omega)
  have HFULL := Lib.hid (fun (n : Nat) (d : PP.St × List (List UInt8) × List ArrD) (h : PP.decls E n (PP.require E σ6 [123]) [] [] = some d) (he : d.1.err ≠ 0) => PP.taskQ_full E (σ := σ) (n := n) (d := d) (by rw [Hq.out]; exact (HV.out ▸ h)) he)
  clear I9 HI7 hst x0 x1
  go_wp2_with fail
  go_loopw [] (fun wr => RDeclRel w0 Z b Y E (PP.require E σ6 [123]) ((W.heap.size, 49, #[.string ⟨#[]⟩, .int .i64 0, .slice none 0 0, .slice none 0 0, .int .u8 0, .int .i64 0, .string ⟨#[]⟩, .slice none 0 0]) :: bl) ks T nm val wr) (fun wr => rleft b wr)
  case atStart => exact HST.out
  case round =>
    obtain ⟨σ', vs, ar, vv, va, bv, ba, hrv, hra, I, hlv, hla, hle, hgo⟩ := hrel
    obtain ⟨Av, cv, rfl⟩ := hrv.form
    obtain ⟨Aa, ca, rfl⟩ := hra.form
    have HRV := Lib.hid hrv
    have HRA := Lib.hid hra
    have HGO := Lib.hid hgo
    have HLE := Lib.hid hle
    have hsee := fun (bl : List OwnB) (W : World) (I : RInv w0 Z b Y E σ' bl ks W) => rsee_inv I
    unfold seenV at hsee
    have e0 := seen_text E σ' (s := PP.kwVar) (by decide)
    have e1 := seen_text E σ' (s := PP.kwArray) (by decide)
    have HML := Lib.hid (rleft_of I.ps)
    have HW := Lib.hid I
    generalize (seen E σ').2.1 = tx at *
    generalize ((seen E σ').1 : Int) = kd at *
    generalize ((seen E σ').2.2 : Int) = ps at *
    have HSEE := Lib.hid hsee
    clear hrv hra hgo hle hsee I HST
    cases sv : PP.sees E σ' PP.kwVar with
    | true =>
      have sa : PP.sees E σ' PP.kwArray = false := sees_one sv (by decide)
      have hmo := more_of_sees sv
      have SV := Lib.hid sv
      have SA := Lib.hid sa
      have HMO := Lib.hid hmo
      rw [sv] at e0
      rw [sa] at e1
      unfold PP.kwVar at e0
      unfold PP.kwArray at e1
      clear sv sa hmo
      go_wp2_with fail
      refine (HSEE.out _ _ HW.out).mono ?_
      rintro e w10 ⟨rfl, I10⟩
      have HI10 := Lib.hid I10
      clear I10
      go_wp2_with fail
      refine (HSEE.out _ _ HI10.out).mono ?_
      rintro e w11 ⟨rfl, I11⟩
      have t2 : w11.cell? ⟨T, 2, none⟩ = some (.slice Av vs.length cv) := I11.b0.cell 2
      have t3 : w11.cell? ⟨T, 3, none⟩ = some (.slice Aa ar.length ca) := I11.b0.cell 3
      have HI11 := Lib.hid I11
      clear I11 HI10
      by_cases hl : vs.length = 12
      · have x1 : ((vs.length : Int) == 12) = true := by simp [hl]
        have HLQ := Lib.hid hl
        clear hl
        go_wp2_with fail
        refine (rat_any _ HI11.out.ps).mono ?_
        rintro e _ ⟨po2, rfl, hp2, rfl⟩
        have hse := PP.more_err E HMO.out
        obtain rfl := hp2 hse.1
        clear hp2
        go_wp2_with fail
        refine (rfail_inv _ 5 (by decide) HI11.out).mono ?_
        rintro e w12 ⟨rfl, I12⟩
        have I13 := I12.perm (permR _ _ _ _ _)
        have hbad : (PP.fail σ' (PP.here E σ') 5).err ≠ 0 := PP.fail_err (by decide)
        have c0 : w12.cell? ⟨T, 0, none⟩ = some (.string ⟨nm.toArray⟩) := I13.b0.cell 0
        have c1 : w12.cell? ⟨T, 1, none⟩ = some (.int .i64 val) := I13.b0.cell 1
        have c2 : w12.cell? ⟨T, 2, none⟩ = some (.slice Av vs.length cv) := I13.b0.cell 2
        have c3 : w12.cell? ⟨T, 3, none⟩ = some (.slice Aa ar.length ca) := I13.b0.cell 3
        have c4 : w12.cell? ⟨T, 4, none⟩ = some (.int .u8 0) := I13.b0.cell 4
        have c5 : w12.cell? ⟨T, 5, none⟩ = some (.int .i64 0) := I13.b0.cell 5
        have c6 : w12.cell? ⟨T, 6, none⟩ = some (.string ⟨#[]⟩) := I13.b0.cell 6
        have c7 : w12.cell? ⟨T, 7, none⟩ = some (.slice none 0 0) := I13.b0.cell 7
        have r0 : w12.cell? ⟨W.heap.size, 0, none⟩ = some (.string ⟨#[]⟩) := I13.b1.cell 0
        have r1 : w12.cell? ⟨W.heap.size, 1, none⟩ = some (.int .i64 0) := I13.b1.cell 1
        have r2 : w12.cell? ⟨W.heap.size, 2, none⟩ = some (.slice none 0 0) := I13.b1.cell 2
        have r3 : w12.cell? ⟨W.heap.size, 3, none⟩ = some (.slice none 0 0) := I13.b1.cell 3
        have r4 : w12.cell? ⟨W.heap.size, 4, none⟩ = some (.int .u8 0) := I13.b1.cell 4
        have r5 : w12.cell? ⟨W.heap.size, 5, none⟩ = some (.int .i64 0) := I13.b1.cell 5
        have r6 : w12.cell? ⟨W.heap.size, 6, none⟩ = some (.string ⟨#[]⟩) := I13.b1.cell 6
        have r7 : w12.cell? ⟨W.heap.size, 7, none⟩ = some (.slice none 0 0) := I13.b1.cell 7
        have q0 := I13.b1.frozen 0
        have q1 := I13.b1.frozen 1
        have q2 := I13.b1.frozen 2
        have q3 := I13.b1.frozen 3
        have q4 := I13.b1.frozen 4
        have q5 := I13.b1.frozen 5
        have q6 := I13.b1.frozen 6
        have q7 := I13.b1.frozen 7
        have HQ := Lib.hid (fun v0 v1 v2 v3 v4 v5 v6 v7 => (show RInv w0 Z b Y E _ (_ :: (W.heap.size, 49, #[v0, v1, v2, v3, v4, v5, v6, v7]) :: (bv ++ (ba ++ bl))) _ _ from (((((((I13.set1 0 v0).set1 1 v1).set1 2 v2).set1 3 v3).set1 4 v4).set1 5 v5).set1 6 v6).set1 7 v7))
        have HB := Lib.hid hbad
        clear I12 I13 HI11 t2 t3 hbad
        go_wp2_with fail
        refine bodyPost_ret (task_result rfl rfl (HQ.out _ _ _ _ _ _ _ _).b1) rfl ?_
        obtain ⟨n', hn'⟩ := HGO.out 2 (PP.fail σ' (PP.here E σ') 5, vs, ar) (by
          rw [PP.decls, SV.out, SA.out]
          simp only [Bool.true_or, if_true, Bool.false_and, Bool.true_and, Bool.false_eq_true, if_false]
          rw [if_neg (by have := HLQ.out; simp; omega)]
          exact PP.decls_stop E HB.out 0 vs ar)
        obtain ⟨m, td, hm⟩ := HFULL.out n' _ hn' HB.out
        exact ⟨_, nm, val, vs, ar, 0, 0, [], [], none, 0, _, _, bv, ba, rfl, HRV.out, HRA.out, hlv, hla, ((HQ.out _ _ _ _ _ _ _ _).drop.drop).addKs (KidsC.nil _ _ _), ⟨m, td, hm, fun h => absurd h HB.out⟩, .inl HB.out⟩
      · have x1 : ((vs.length : Int) == 12) = false := by simp; omega
        have HLQ := Lib.hid hl
        clear hl
        go_wp2_with fail
        refine (rskip_inv HMO.out HI11.out).mono ?_
        rintro e w12 ⟨rfl, I12⟩
        have HI3 := Lib.hid I12
        have t4 : w12.cell? ⟨T, 2, none⟩ = some (.slice Av vs.length cv) := I12.b0.cell 2
        have hTb := I12.ne (x := (T, 49, #[.string ⟨nm.toArray⟩, .int .i64 val, .slice Av vs.length cv, .slice Aa ar.length ca, .int .u8 0, .int .i64 0, .string ⟨#[]⟩, .slice none 0 0])) (by simp)
        have hw0 := I12.fr.size
        have HCALL := Lib.hid (rname_inv I12)
        have HCALLd := Lib.hid (rname_inv I12.drew)
        have HBV := Lib.hid (show ∀ x ∈ bv, x ∈ ((T, 49, #[.string ⟨nm.toArray⟩, .int .i64 val, .slice Av vs.length cv, .slice Aa ar.length ca, .int .u8 0, .int .i64 0, .string ⟨#[]⟩, .slice none 0 0]) :: (bv ++ (ba ++ ((W.heap.size, 49, #[.string ⟨#[]⟩, .int .i64 0, .slice none 0 0, .slice none 0 0, .int .u8 0, .int .i64 0, .string ⟨#[]⟩, .slice none 0 0]) :: bl)))) from fun x hx => by simp [hx])
        generalize hnq : PP.nameP E (PP.adv σ') = nq at *
        have HNQ := Lib.hid hnq
        clear I12 HI11 t2 t3 hnq
        go_wp2_with fail
        go_region_law (first | (refine step_append_lies _ (by rfl) _ _ 47 (by rfl) w0.heap.size 9 i0 (.string ⟨#[]⟩) 1 16 Tryz.underlying47 H0.out H1.out H2.out H3.out (by rfl) (by decide) _ _ _ (by rfl) (HRV.out.own (fun x hx => HI5a.out.blk (HBV.out x hx))) ⟨w5.heap.size, 0, none⟩ 1 1 [.string ⟨nq.2.toArray⟩] (by rfl) (by rfl) (World.news_of_block (heap_alloc_new w5 _)) (by intro u hu; simp at hu; subst hu; rfl) (by decide) (by unfold maxLen; omega) (by omega) (by simp; omega) (w5.heap.size + 1) (by simp) ?_; intro g cap w7 hown7 hg7 hat7 hlt7; obtain ⟨bs', hr', I7⟩ := RInv.append (rest := ((T, 49, #[.string ⟨nm.toArray⟩, .int .i64 val, .slice Av vs.length cv, .slice Aa ar.length ca, .int .u8 0, .int .i64 0, .string ⟨#[]⟩, .slice none 0 0]) :: (ba ++ ((W.heap.size, 49, #[.string ⟨#[]⟩, .int .i64 0, .slice none 0 0, .slice none 0 0, .int .u8 0, .int .i64 0, .string ⟨#[]⟩, .slice none 0 0]) :: bl)))) (HI5a.out.perm (permV _ _ _ _)) HRV.out hown7 hg7 hat7 (by simp) rfl; have c7 : w7.cell? ⟨T, 2, none⟩ = some (.slice Av vs.length cv) := (I7.blk (x := (T, 49, #[.string ⟨nm.toArray⟩, .int .i64 val, .slice Av vs.length cv, .slice Aa ar.length ca, .int .u8 0, .int .i64 0, .string ⟨#[]⟩, .slice none 0 0])) (by simp)).cell 2; have f7 := (I7.blk (x := (T, 49, #[.string ⟨nm.toArray⟩, .int .i64 val, .slice Av vs.length cv, .slice Aa ar.length ca, .int .u8 0, .int .i64 0, .string ⟨#[]⟩, .slice none 0 0])) (by simp)).frozen 2) | (go_simp; go_at_call 48; (first | (with_reducible refine HCALL.out.mono ?_) | (with_reducible refine HCALLd.out.mono ?_)); rintro e w5 ⟨rfl, I5⟩; have hs5 := I5.fr.size; have c5 : w5.cell? ⟨T, 2, none⟩ = some (.slice Av vs.length cv) := I5.b0.cell 2; have hT5 := I5.b0.lt; have HI5a := Lib.hid (I5.more (.cells #[.string ⟨nq.2.toArray⟩] 9))))
        all_goals
         have hrow : RowV w0.heap.size 9 1 (.slice (some ⟨g, 0, none⟩) (vs.length + 1) cap) (vs ++ [nq.2]).length (strCells (vs ++ [nq.2])) bs' := by have := hr'; simpa [strCells] using this
         have HQ0 := I7.set (l1 := bs') 2 (.slice (some ⟨g, 0, none⟩) (vs.length + 1) cap)
         have HQ := Lib.hid HQ0
         clear I7 hr' hown7 hg7 hat7 I5 HI5a HCALL HCALLd HQ0
         go_wp2_with fail
         refine (rwant_inv ⟨#[59]⟩ (by simp) HQ.out).mono ?_
         rintro e w8 ⟨rfl, I8⟩
         have HI8 := Lib.hid I8
         clear I8 HQ
         have hvp : PP.variableP E σ' = (PP.require E nq.1 [59], nq.2) := by unfold PP.variableP; simp only []; rw [HNQ.out]
         have hnx : σ'.next < (PP.require E nq.1 [59]).next := by have := le_variableP (E := E) (σ := σ'); rw [hvp] at this; exact this
         have hse := PP.more_err E HMO.out
         have HVP := Lib.hid hvp
         have HNX := Lib.hid hnx
         clear hvp hnx
         go_wp2_with fail
         go_roundw
         case rel =>
           refine ⟨_, vs ++ [nq.2], ar, _, _, bs', ba, hrow, HRA.out, HI8.out.perm (permV _ _ _ _).symm, by have := HLQ.out; simp; omega, hla, (by rcases HLE.out with h | h; exact absurd hse.1 h; exact .inr (Nat.le_trans h (Nat.le_of_lt HNX.out))), fun n r hr => HGO.out (n + 1) r ?_⟩
           rw [PP.decls, SV.out, SA.out, HVP.out]
           simp only [Bool.true_or, if_true, Bool.false_and, Bool.true_and, Bool.false_eq_true, if_false]
           rw [if_pos (by have := HLQ.out; simp; omega)]
           exact hr
         case measure => exact rleft_lt HW.out.ps HI8.out.ps hse.1 hse.2 (.inr HNX.out)
    | false =>
      cases sa : PP.sees E σ' PP.kwArray with
      | true =>
        have hmo := more_of_sees sa
        have SV := Lib.hid sv
        have SA := Lib.hid sa
        have HMO := Lib.hid hmo
        rw [sv] at e0
        rw [sa] at e1
        unfold PP.kwVar at e0
        unfold PP.kwArray at e1
        clear sv sa hmo
        go_wp2_with fail
        refine (HSEE.out _ _ HW.out).mono ?_
        rintro e w9a ⟨rfl, I9⟩
        have HI9 := Lib.hid I9
        clear I9
        go_wp2_with fail
        refine (HSEE.out _ _ HI9.out).mono ?_
        rintro e w10 ⟨rfl, I10⟩
        have HI10 := Lib.hid I10
        clear I10 HI9
        go_wp2_with fail
        refine (HSEE.out _ _ HI10.out).mono ?_
        rintro e w11 ⟨rfl, I11⟩
        have t2 : w11.cell? ⟨T, 2, none⟩ = some (.slice Av vs.length cv) := I11.b0.cell 2
        have t3 : w11.cell? ⟨T, 3, none⟩ = some (.slice Aa ar.length ca) := I11.b0.cell 3
        have HI11 := Lib.hid I11
        clear I11 HI10
        by_cases hl : ar.length = 4
        · have x1 : ((ar.length : Int) == 4) = true := by simp [hl]
          have HLQ := Lib.hid hl
          clear hl
          go_wp2_with fail
          refine (rat_any _ HI11.out.ps).mono ?_
          rintro e _ ⟨po2, rfl, hp2, rfl⟩
          have hse := PP.more_err E HMO.out
          obtain rfl := hp2 hse.1
          clear hp2
          go_wp2_with fail
          refine (rfail_inv _ 5 (by decide) HI11.out).mono ?_
          rintro e w12 ⟨rfl, I12⟩
          have I13 := I12.perm (permR _ _ _ _ _)
          have hbad : (PP.fail σ' (PP.here E σ') 5).err ≠ 0 := PP.fail_err (by decide)
          have c0 : w12.cell? ⟨T, 0, none⟩ = some (.string ⟨nm.toArray⟩) := I13.b0.cell 0
          have c1 : w12.cell? ⟨T, 1, none⟩ = some (.int .i64 val) := I13.b0.cell 1
          have c2 : w12.cell? ⟨T, 2, none⟩ = some (.slice Av vs.length cv) := I13.b0.cell 2
          have c3 : w12.cell? ⟨T, 3, none⟩ = some (.slice Aa ar.length ca) := I13.b0.cell 3
          have c4 : w12.cell? ⟨T, 4, none⟩ = some (.int .u8 0) := I13.b0.cell 4
          have c5 : w12.cell? ⟨T, 5, none⟩ = some (.int .i64 0) := I13.b0.cell 5
          have c6 : w12.cell? ⟨T, 6, none⟩ = some (.string ⟨#[]⟩) := I13.b0.cell 6
          have c7 : w12.cell? ⟨T, 7, none⟩ = some (.slice none 0 0) := I13.b0.cell 7
          have r0 : w12.cell? ⟨W.heap.size, 0, none⟩ = some (.string ⟨#[]⟩) := I13.b1.cell 0
          have r1 : w12.cell? ⟨W.heap.size, 1, none⟩ = some (.int .i64 0) := I13.b1.cell 1
          have r2 : w12.cell? ⟨W.heap.size, 2, none⟩ = some (.slice none 0 0) := I13.b1.cell 2
          have r3 : w12.cell? ⟨W.heap.size, 3, none⟩ = some (.slice none 0 0) := I13.b1.cell 3
          have r4 : w12.cell? ⟨W.heap.size, 4, none⟩ = some (.int .u8 0) := I13.b1.cell 4
          have r5 : w12.cell? ⟨W.heap.size, 5, none⟩ = some (.int .i64 0) := I13.b1.cell 5
          have r6 : w12.cell? ⟨W.heap.size, 6, none⟩ = some (.string ⟨#[]⟩) := I13.b1.cell 6
          have r7 : w12.cell? ⟨W.heap.size, 7, none⟩ = some (.slice none 0 0) := I13.b1.cell 7
          have q0 := I13.b1.frozen 0
          have q1 := I13.b1.frozen 1
          have q2 := I13.b1.frozen 2
          have q3 := I13.b1.frozen 3
          have q4 := I13.b1.frozen 4
          have q5 := I13.b1.frozen 5
          have q6 := I13.b1.frozen 6
          have q7 := I13.b1.frozen 7
          have HQ := Lib.hid (fun v0 v1 v2 v3 v4 v5 v6 v7 => (show RInv w0 Z b Y E _ (_ :: (W.heap.size, 49, #[v0, v1, v2, v3, v4, v5, v6, v7]) :: (bv ++ (ba ++ bl))) _ _ from (((((((I13.set1 0 v0).set1 1 v1).set1 2 v2).set1 3 v3).set1 4 v4).set1 5 v5).set1 6 v6).set1 7 v7))
          have HB := Lib.hid hbad
          clear I12 I13 HI11 t2 t3 hbad
          go_wp2_with fail
          refine bodyPost_ret (task_result rfl rfl (HQ.out _ _ _ _ _ _ _ _).b1) rfl ?_
          obtain ⟨n', hn'⟩ := HGO.out 2 (PP.fail σ' (PP.here E σ') 5, vs, ar) (by
            rw [PP.decls, SV.out, SA.out]
            simp only [Bool.or_true, if_true, Bool.false_and, Bool.true_and, Bool.false_eq_true, if_false]
            rw [if_neg (by have := HLQ.out; simp; omega)]
            exact PP.decls_stop E HB.out 0 vs ar)
          obtain ⟨m, td, hm⟩ := HFULL.out n' _ hn' HB.out
          exact ⟨_, nm, val, vs, ar, 0, 0, [], [], none, 0, _, _, bv, ba, rfl, HRV.out, HRA.out, hlv, hla, ((HQ.out _ _ _ _ _ _ _ _).drop.drop).addKs (KidsC.nil _ _ _), ⟨m, td, hm, fun h => absurd h HB.out⟩, .inl HB.out⟩
        · have x1 : ((ar.length : Int) == 4) = false := by simp; omega
          have HLQ := Lib.hid hl
          clear hl
          go_wp2_with fail
          refine (rskip_inv HMO.out HI11.out).mono ?_
          rintro e w12 ⟨rfl, I12⟩
          have HI3 := Lib.hid I12
          have t4 : w12.cell? ⟨T, 3, none⟩ = some (.slice Aa ar.length ca) := I12.b0.cell 3
          have hTb := I12.ne (x := (T, 49, #[.string ⟨nm.toArray⟩, .int .i64 val, .slice Av vs.length cv, .slice Aa ar.length ca, .int .u8 0, .int .i64 0, .string ⟨#[]⟩, .slice none 0 0])) (by simp)
          have hw0 := I12.fr.size
          have HCALL := Lib.hid (rarray_inv I12)
          have HCALLd := Lib.hid (rarray_inv I12.drew)
          have HBV := Lib.hid (show ∀ x ∈ ba, x ∈ ((T, 49, #[.string ⟨nm.toArray⟩, .int .i64 val, .slice Av vs.length cv, .slice Aa ar.length ca, .int .u8 0, .int .i64 0, .string ⟨#[]⟩, .slice none 0 0]) :: (bv ++ (ba ++ ((W.heap.size, 49, #[.string ⟨#[]⟩, .int .i64 0, .slice none 0 0, .slice none 0 0, .int .u8 0, .int .i64 0, .string ⟨#[]⟩, .slice none 0 0]) :: bl)))) from fun x hx => by simp [hx])
          generalize hnq : PP.arrQ E (PP.adv σ') = nq at *
          have HNQ := Lib.hid hnq
          clear I12 HI11 t2 t3 hnq
          go_wp2_with fail
          go_region_law (first | (refine step_append_lies _ (by rfl) _ _ 23 (by rfl) w0.heap.size 43 i1 (.agg #[.string ⟨#[]⟩, .int .i64 0]) 2 24 Tryz.underlying23 K0.out K1.out K2.out K3.out (by rfl) (by decide) _ _ _ (by rfl) (HRA.out.own (fun x hx => HI5a.out.blk (HBV.out x hx))) ⟨w5.heap.size, 0, none⟩ 1 1 [.string ⟨nq.2.name.toArray⟩, .int .i64 nq.2.len] (by rfl) (by rfl) (World.news_of_block (heap_alloc_new w5 _)) (by intro u hu; simp at hu; rcases hu with rfl | rfl <;> rfl) (by decide) (by unfold maxLen; omega) (by omega) (by simp; omega) (w5.heap.size + 1) (by simp) ?_; intro g cap w7 hown7 hg7 hat7 hlt7; obtain ⟨bs', hr', I7⟩ := RInv.append (rest := ((T, 49, #[.string ⟨nm.toArray⟩, .int .i64 val, .slice Av vs.length cv, .slice Aa ar.length ca, .int .u8 0, .int .i64 0, .string ⟨#[]⟩, .slice none 0 0]) :: (bv ++ ((W.heap.size, 49, #[.string ⟨#[]⟩, .int .i64 0, .slice none 0 0, .slice none 0 0, .int .u8 0, .int .i64 0, .string ⟨#[]⟩, .slice none 0 0]) :: bl)))) (HI5a.out.perm (permA _ _ _ _)) HRA.out hown7 hg7 hat7 (by simp) rfl; have c7 : w7.cell? ⟨T, 3, none⟩ = some (.slice Aa ar.length ca) := (I7.blk (x := (T, 49, #[.string ⟨nm.toArray⟩, .int .i64 val, .slice Av vs.length cv, .slice Aa ar.length ca, .int .u8 0, .int .i64 0, .string ⟨#[]⟩, .slice none 0 0])) (by simp)).cell 3; have f7 := (I7.blk (x := (T, 49, #[.string ⟨nm.toArray⟩, .int .i64 val, .slice Av vs.length cv, .slice Aa ar.length ca, .int .u8 0, .int .i64 0, .string ⟨#[]⟩, .slice none 0 0])) (by simp)).frozen 3) | (go_simp; go_at_call 21; (first | (with_reducible refine HCALL.out.mono ?_) | (with_reducible refine HCALLd.out.mono ?_)); rintro e w5 ⟨rfl, I5⟩; have hs5 := I5.fr.size; have c5 : w5.cell? ⟨T, 3, none⟩ = some (.slice Aa ar.length ca) := I5.b0.cell 3; have hT5 := I5.b0.lt; have HI5a := Lib.hid (I5.more (.cells #[.string ⟨nq.2.name.toArray⟩, .int .i64 nq.2.len] 43))))
          all_goals
           have hrow : RowV w0.heap.size 43 2 (.slice (some ⟨g, 0, none⟩) (ar.length + 1) cap) (ar ++ [nq.2]).length (arrCells (ar ++ [nq.2])) bs' := by have := hr'; simpa [arrCells] using this
           have HQ0 := I7.set (l1 := bs') 3 (.slice (some ⟨g, 0, none⟩) (ar.length + 1) cap)
           have HQ := Lib.hid HQ0
           clear I7 hr' hown7 hg7 hat7 I5 HI5a HCALL HCALLd HQ0
           have HI8 := HQ
           have hvp : PP.arrayP E σ' = nq := HNQ.out
           have hnx : σ'.next < nq.1.next := by have := le_arrayP (E := E) (σ := σ'); rw [hvp] at this; exact this
           have hse := PP.more_err E HMO.out
           have HVP := Lib.hid hvp
           have HNX := Lib.hid hnx
           clear hvp hnx
           go_wp2_with fail
           go_roundw
           case rel =>
             refine ⟨_, vs, ar ++ [nq.2], _, _, bv, bs', HRV.out, hrow, HI8.out.perm (permA _ _ _ _).symm, hlv, by have := HLQ.out; simp; omega, (by rcases HLE.out with h | h; exact absurd hse.1 h; exact .inr (Nat.le_trans h (Nat.le_of_lt HNX.out))), fun n r hr => HGO.out (n + 1) r ?_⟩
             rw [PP.decls, SV.out, SA.out, HVP.out]
             simp only [Bool.or_true, if_true, Bool.true_and]
             rw [if_pos (by have := HLQ.out; simp; omega)]
             exact hr
           case measure => exact rleft_lt HW.out.ps HI8.out.ps hse.1 hse.2 (.inr HNX.out)
      | false =>
        have SV := Lib.hid sv
        have SA := Lib.hid sa
        rw [sv] at e0
        rw [sa] at e1
        unfold PP.kwVar at e0
        unfold PP.kwArray at e1
        clear sv sa
        go_wp2_with fail
        refine (HSEE.out _ _ HW.out).mono ?_
        rintro e w10 ⟨rfl, I10⟩
        have HI10 := Lib.hid I10
        clear I10
        go_wp2_with fail
        refine (HSEE.out _ _ HI10.out).mono ?_
        rintro e w11 ⟨rfl, I11⟩
        have HI11 := Lib.hid I11
        clear I11 HI10 HSEE
        go_wp2_with fail
        refine (rtree_inv HI11.out (rsts_all σ' _ HI11.out.ps)).mono ?_
        rintro e w12 ⟨k, num, bn, A, c, kids, σ11, rfl, I12, hal⟩
        have HAL := Lib.hid hal
        have t4 : w12.cell? ⟨T, 4, none⟩ = some (.int .u8 0) := I12.b0.cell 4
        have t5 : w12.cell? ⟨T, 5, none⟩ = some (.int .i64 0) := I12.b0.cell 5
        have t6 : w12.cell? ⟨T, 6, none⟩ = some (.string ⟨#[]⟩) := I12.b0.cell 6
        have t7 : w12.cell? ⟨T, 7, none⟩ = some (.slice none 0 0) := I12.b0.cell 7
        have f4 := I12.b0.frozen 4
        have f5 := I12.b0.frozen 5
        have f6 := I12.b0.frozen 6
        have f7 := I12.b0.frozen 7
        have I13 : RInv w0 Z b Y E σ11 ((T, 49, #[.string ⟨nm.toArray⟩, .int .i64 val, .slice Av vs.length cv, .slice Aa ar.length ca, .int .u8 (k : Int), .int .i64 num, .string ⟨bn.toArray⟩, .slice A kids.length c]) :: _) _ _ := (((I12.set0 4 (.int .u8 (k : Int))).set0 5 (.int .i64 num)).set0 6 (.string ⟨bn.toArray⟩)).set0 7 (.slice A kids.length c)
        have HI13 := Lib.hid I13
        clear I12 I13 HI11 hal
        go_wp2_with fail
        refine (rwant_inv ⟨#[125]⟩ (by simp) HI13.out).mono ?_
        rintro e w14 ⟨rfl, I14⟩
        have hI14 : RInv w0 Z b Y E (PP.require E σ11 [125]) _ _ w14 := I14
        obtain ⟨n1, hd⟩ := HGO.out 1 (σ', vs, ar) (by rw [PP.decls, SV.out, SA.out]; rfl)
        have hsz : (PP.require E σ11 [125]).err = 0 → σ11.err = 0 ∧ PP.sizeL kids ≤ 1000000 := by
          intro he
          have he1 := PP.ok_back (PP.le_require E σ11 [125]) he
          refine ⟨he1, ?_⟩
          obtain ⟨m2, t', hr2, ht⟩ := HAL.out
          obtain ⟨x, hx, hx2⟩ := Option.map_eq_some_iff.1 hr2
          injection hx2 with e1 e2
          have h1 := (PP.stmt_size E m2).1 _ _ _ _ hx (by rw [e1]; exact he1)
          have e3 := ht he1
          rw [← e2] at e3
          injection e3 with _ _ _ e3
          rw [← e3, e1] at h1
          have h2 := HI13.out.ps.next he1
          simp only [PP.sizeL] at h1
          omega
        have fin : ∀ σf, (∀ t', (σ11.err = 0 → Tree.node k num bn kids = t') → PP.limitP t' (PP.here E σ6) (PP.require E σ11 [125]) = σf) → ∃ n td, PP.taskQ E n σ = some (σf, td) ∧ (σf.err = 0 → td = ⟨nm, val, vs, ar, .node k num bn kids⟩) := by
          intro σf hσf
          obtain ⟨m2, t', hr2, ht⟩ := HAL.out
          obtain ⟨m, hm⟩ := PP.taskQ_mk E Hq.out HV.out hd hr2
          refine ⟨m, _, by rw [hσf t' ht] at hm; exact hm, fun h0 => ?_⟩
          have h1 := hσf t' ht
          rw [← h1] at h0
          rw [ht (PP.ok_back (PP.le_require E σ11 [125]) (PP.limitP_ok h0).1)]
        have FIN := Lib.hid fin
        have HSZ := Lib.hid hsz
        have HD := Lib.hid hd
        have HI14 := Lib.hid hI14
        clear I14 hI14 HI13 t4 t5 t6 t7 f4 f5 f6 f7 hd fin hsz
        have hnx : (PP.require E σ11 [125]).err = 0 → σ6.err = 0 ∧ σ.next ≤ (PP.require E σ11 [125]).next := by
          intro he
          have h1 := HSZ.out he
          obtain ⟨m2, t', hr2, _⟩ := HAL.out
          obtain ⟨x, hx, hx2⟩ := Option.map_eq_some_iff.1 hr2
          injection hx2 with e1 e2
          have hL := (PP.stmt_le E m2).1 _ _ _ _ hx
          rw [e1] at hL
          have h2 := PP.ok_back hL h1.1
          have h3 := PP.decls_okb E HD.out h2
          have h4 := PP.ok_back (PP.le_require E σ6 [123]) h3
          have h5 := (PP.le_require E σ11 [125]).1
          have h6 := hL.1
          have h7 := L9.out
          refine ⟨h4, ?_⟩
          rcases HLE.out with h8 | h8
          · exact absurd h2 h8
          · exact Nat.le_trans (Nat.le_trans h7 h8) (Nat.le_trans h6 h5)
        have HNX := Lib.hid hnx
        clear hnx
        generalize hσe : PP.require E σ11 [125] = σe at *
        obtain ⟨k9, c9, pe9, A9, hst9⟩ := HI14.out.ps.st
        obtain ⟨_, _, x2, _⟩ := hst9.cells
        have t4 : w14.cell? ⟨T, 4, none⟩ = some (.int .u8 (k : Int)) := HI14.out.b0.cell 4
        have t5 : w14.cell? ⟨T, 5, none⟩ = some (.int .i64 num) := HI14.out.b0.cell 5
        have t6 : w14.cell? ⟨T, 6, none⟩ = some (.string ⟨bn.toArray⟩) := HI14.out.b0.cell 6
        have t7 : w14.cell? ⟨T, 7, none⟩ = some (.slice A kids.length c) := HI14.out.b0.cell 7
        clear hst9
        by_cases he : σe.err = 0
        · have y1 : ((σe.err : Int) == 0) = true := by simp [he]
          have hlg := rlarge_any (HI14.out.ks (A, kids) (by simp)) k num bn c (HSZ.out he).2
          cases hL : PP.large (.node k num bn kids) with
          | false =>
            rw [hL] at hlg
            have HLG := Lib.hid hlg
            have HL := Lib.hid hL
            have HE := Lib.hid he
            clear hlg hL he
            go_wp2_with fail
            refine HLG.out.mono ?_
            rintro e w15 ⟨rfl, hb⟩
            have I16 := (HI14.out.call (HI14.out.ps.below hb) (Fr.of_below hb)).perm (permR _ _ _ _ _)
            have c0 : w15.cell? ⟨T, 0, none⟩ = some (.string ⟨nm.toArray⟩) := I16.b0.cell 0
            have c1 : w15.cell? ⟨T, 1, none⟩ = some (.int .i64 val) := I16.b0.cell 1
            have c2 : w15.cell? ⟨T, 2, none⟩ = some (.slice Av vs.length cv) := I16.b0.cell 2
            have c3 : w15.cell? ⟨T, 3, none⟩ = some (.slice Aa ar.length ca) := I16.b0.cell 3
            have c4 : w15.cell? ⟨T, 4, none⟩ = some (.int .u8 (k : Int)) := I16.b0.cell 4
            have c5 : w15.cell? ⟨T, 5, none⟩ = some (.int .i64 num) := I16.b0.cell 5
            have c6 : w15.cell? ⟨T, 6, none⟩ = some (.string ⟨bn.toArray⟩) := I16.b0.cell 6
            have c7 : w15.cell? ⟨T, 7, none⟩ = some (.slice A kids.length c) := I16.b0.cell 7
            have r0 : w15.cell? ⟨W.heap.size, 0, none⟩ = some (.string ⟨#[]⟩) := I16.b1.cell 0
            have r1 : w15.cell? ⟨W.heap.size, 1, none⟩ = some (.int .i64 0) := I16.b1.cell 1
            have r2 : w15.cell? ⟨W.heap.size, 2, none⟩ = some (.slice none 0 0) := I16.b1.cell 2
            have r3 : w15.cell? ⟨W.heap.size, 3, none⟩ = some (.slice none 0 0) := I16.b1.cell 3
            have r4 : w15.cell? ⟨W.heap.size, 4, none⟩ = some (.int .u8 0) := I16.b1.cell 4
            have r5 : w15.cell? ⟨W.heap.size, 5, none⟩ = some (.int .i64 0) := I16.b1.cell 5
            have r6 : w15.cell? ⟨W.heap.size, 6, none⟩ = some (.string ⟨#[]⟩) := I16.b1.cell 6
            have r7 : w15.cell? ⟨W.heap.size, 7, none⟩ = some (.slice none 0 0) := I16.b1.cell 7
            have q0 := I16.b1.frozen 0
            have q1 := I16.b1.frozen 1
            have q2 := I16.b1.frozen 2
            have q3 := I16.b1.frozen 3
            have q4 := I16.b1.frozen 4
            have q5 := I16.b1.frozen 5
            have q6 := I16.b1.frozen 6
            have q7 := I16.b1.frozen 7
            have HQ := Lib.hid (fun v0 v1 v2 v3 v4 v5 v6 v7 => (show RInv w0 Z b Y E _ (_ :: (W.heap.size, 49, #[v0, v1, v2, v3, v4, v5, v6, v7]) :: (bv ++ (ba ++ bl))) _ _ from (((((((I16.set1 0 v0).set1 1 v1).set1 2 v2).set1 3 v3).set1 4 v4).set1 5 v5).set1 6 v6).set1 7 v7))
            clear I16 hb HLG t4 t5 t6 t7 x2
            go_wp2_with fail
            refine bodyPost_ret (task_result rfl rfl (HQ.out _ _ _ _ _ _ _ _).b1) rfl ?_
            exact ⟨_, nm, val, vs, ar, k, num, bn, kids, A, c, _, _, bv, ba, rfl, HRV.out, HRA.out, hlv, hla, (HQ.out _ _ _ _ _ _ _ _).drop.drop, FIN.out _ (fun t' ht => by rw [← ht (HSZ.out HE.out).1]; unfold PP.limitP; rw [if_pos HE.out, HL.out]; rfl), .inr (HNX.out HE.out).2⟩
          | true =>
            rw [hL] at hlg
            have HLG := Lib.hid hlg
            have HL := Lib.hid hL
            have HE := Lib.hid he
            have HP := Lib.hid (HPO.out (HNX.out he).1)
            clear hlg hL he
            go_wp2_with fail
            refine HLG.out.mono ?_
            rintro e w15 ⟨rfl, hb⟩
            have HI15 := Lib.hid (HI14.out.call (HI14.out.ps.below hb) (Fr.of_below hb))
            clear hb HLG t4 t5 t6 t7 x2
            go_wp2_with fail
            refine (rfail_inv po 5 (by decide) HI15.out).mono ?_
            rintro e w16 ⟨rfl, I16a⟩
            have I16 := I16a.perm (permR _ _ _ _ _)
            have c0 : w16.cell? ⟨T, 0, none⟩ = some (.string ⟨nm.toArray⟩) := I16.b0.cell 0
            have c1 : w16.cell? ⟨T, 1, none⟩ = some (.int .i64 val) := I16.b0.cell 1
            have c2 : w16.cell? ⟨T, 2, none⟩ = some (.slice Av vs.length cv) := I16.b0.cell 2
            have c3 : w16.cell? ⟨T, 3, none⟩ = some (.slice Aa ar.length ca) := I16.b0.cell 3
            have c4 : w16.cell? ⟨T, 4, none⟩ = some (.int .u8 (k : Int)) := I16.b0.cell 4
            have c5 : w16.cell? ⟨T, 5, none⟩ = some (.int .i64 num) := I16.b0.cell 5
            have c6 : w16.cell? ⟨T, 6, none⟩ = some (.string ⟨bn.toArray⟩) := I16.b0.cell 6
            have c7 : w16.cell? ⟨T, 7, none⟩ = some (.slice A kids.length c) := I16.b0.cell 7
            have r0 : w16.cell? ⟨W.heap.size, 0, none⟩ = some (.string ⟨#[]⟩) := I16.b1.cell 0
            have r1 : w16.cell? ⟨W.heap.size, 1, none⟩ = some (.int .i64 0) := I16.b1.cell 1
            have r2 : w16.cell? ⟨W.heap.size, 2, none⟩ = some (.slice none 0 0) := I16.b1.cell 2
            have r3 : w16.cell? ⟨W.heap.size, 3, none⟩ = some (.slice none 0 0) := I16.b1.cell 3
            have r4 : w16.cell? ⟨W.heap.size, 4, none⟩ = some (.int .u8 0) := I16.b1.cell 4
            have r5 : w16.cell? ⟨W.heap.size, 5, none⟩ = some (.int .i64 0) := I16.b1.cell 5
            have r6 : w16.cell? ⟨W.heap.size, 6, none⟩ = some (.string ⟨#[]⟩) := I16.b1.cell 6
            have r7 : w16.cell? ⟨W.heap.size, 7, none⟩ = some (.slice none 0 0) := I16.b1.cell 7
            have q0 := I16.b1.frozen 0
            have q1 := I16.b1.frozen 1
            have q2 := I16.b1.frozen 2
            have q3 := I16.b1.frozen 3
            have q4 := I16.b1.frozen 4
            have q5 := I16.b1.frozen 5
            have q6 := I16.b1.frozen 6
            have q7 := I16.b1.frozen 7
            have HQ := Lib.hid (fun v0 v1 v2 v3 v4 v5 v6 v7 => (show RInv w0 Z b Y E _ (_ :: (W.heap.size, 49, #[v0, v1, v2, v3, v4, v5, v6, v7]) :: (bv ++ (ba ++ bl))) _ _ from (((((((I16.set1 0 v0).set1 1 v1).set1 2 v2).set1 3 v3).set1 4 v4).set1 5 v5).set1 6 v6).set1 7 v7))
            clear I16 I16a HI15
            go_wp2_with fail
            refine bodyPost_ret (task_result rfl rfl (HQ.out _ _ _ _ _ _ _ _).b1) rfl ?_
            exact ⟨_, nm, val, vs, ar, k, num, bn, kids, A, c, _, _, bv, ba, rfl, HRV.out, HRA.out, hlv, hla, (HQ.out _ _ _ _ _ _ _ _).drop.drop, FIN.out _ (fun t' ht => by rw [← ht (HSZ.out HE.out).1, HP.out]; unfold PP.limitP; rw [if_pos HE.out, HL.out]; rfl), .inl (PP.fail_err (by decide))⟩
        · have y1 : ((σe.err : Int) == 0) = false := beq_eq_false_iff_ne.2 (by omega)
          have HE := Lib.hid he
          have I16 := HI14.out.perm (permR _ _ _ _ _)
          have c0 : w14.cell? ⟨T, 0, none⟩ = some (.string ⟨nm.toArray⟩) := I16.b0.cell 0
          have c1 : w14.cell? ⟨T, 1, none⟩ = some (.int .i64 val) := I16.b0.cell 1
          have c2 : w14.cell? ⟨T, 2, none⟩ = some (.slice Av vs.length cv) := I16.b0.cell 2
          have c3 : w14.cell? ⟨T, 3, none⟩ = some (.slice Aa ar.length ca) := I16.b0.cell 3
          have c4 : w14.cell? ⟨T, 4, none⟩ = some (.int .u8 (k : Int)) := I16.b0.cell 4
          have c5 : w14.cell? ⟨T, 5, none⟩ = some (.int .i64 num) := I16.b0.cell 5
          have c6 : w14.cell? ⟨T, 6, none⟩ = some (.string ⟨bn.toArray⟩) := I16.b0.cell 6
          have c7 : w14.cell? ⟨T, 7, none⟩ = some (.slice A kids.length c) := I16.b0.cell 7
          have r0 : w14.cell? ⟨W.heap.size, 0, none⟩ = some (.string ⟨#[]⟩) := I16.b1.cell 0
          have r1 : w14.cell? ⟨W.heap.size, 1, none⟩ = some (.int .i64 0) := I16.b1.cell 1
          have r2 : w14.cell? ⟨W.heap.size, 2, none⟩ = some (.slice none 0 0) := I16.b1.cell 2
          have r3 : w14.cell? ⟨W.heap.size, 3, none⟩ = some (.slice none 0 0) := I16.b1.cell 3
          have r4 : w14.cell? ⟨W.heap.size, 4, none⟩ = some (.int .u8 0) := I16.b1.cell 4
          have r5 : w14.cell? ⟨W.heap.size, 5, none⟩ = some (.int .i64 0) := I16.b1.cell 5
          have r6 : w14.cell? ⟨W.heap.size, 6, none⟩ = some (.string ⟨#[]⟩) := I16.b1.cell 6
          have r7 : w14.cell? ⟨W.heap.size, 7, none⟩ = some (.slice none 0 0) := I16.b1.cell 7
          have q0 := I16.b1.frozen 0
          have q1 := I16.b1.frozen 1
          have q2 := I16.b1.frozen 2
          have q3 := I16.b1.frozen 3
          have q4 := I16.b1.frozen 4
          have q5 := I16.b1.frozen 5
          have q6 := I16.b1.frozen 6
          have q7 := I16.b1.frozen 7
          have HQ := Lib.hid (fun v0 v1 v2 v3 v4 v5 v6 v7 => (show RInv w0 Z b Y E _ (_ :: (W.heap.size, 49, #[v0, v1, v2, v3, v4, v5, v6, v7]) :: (bv ++ (ba ++ bl))) _ _ from (((((((I16.set1 0 v0).set1 1 v1).set1 2 v2).set1 3 v3).set1 4 v4).set1 5 v5).set1 6 v6).set1 7 v7))
          clear I16 t4 t5 t6 t7 he
          go_wp2_with fail
          refine bodyPost_ret (task_result rfl rfl (HQ.out _ _ _ _ _ _ _ _).b1) rfl ?_
          exact ⟨_, nm, val, vs, ar, k, num, bn, kids, A, c, _, _, bv, ba, rfl, HRV.out, HRA.out, hlv, hla, (HQ.out _ _ _ _ _ _ _ _).drop.drop, FIN.out _ (fun t' _ => by unfold PP.limitP; rw [if_neg HE.out]), .inl HE.out⟩
end
end Go.Proofs.YtglaecalbamnkaaGreatDoor
