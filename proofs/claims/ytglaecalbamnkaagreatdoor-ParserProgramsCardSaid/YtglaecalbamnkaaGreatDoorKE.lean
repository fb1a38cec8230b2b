/- Merged from ParR, ParS, ParT, ParU, ParV (wip/pack.py). -/
import Derived.Test.YtglaecalbamnkaaGreatDoorKD
import Derived.Test.YtglaecalbamnkaaGreatDoorKA
import Derived.Test.YtglaecalbamnkaaGreatDoorKB
/- The contract of the parser's declarations (written by wip/gendecl.py). -/
namespace Go.Proofs.YtglaecalbamnkaaGreatDoor
open Go.RowKit Go.Maps
open PP (Tree ArrD)

def strCells (vs : List (List UInt8)) : List Value := vs.map fun s => Value.string ⟨s.toArray⟩
def arrCells (ar : List ArrD) : List Value := ar.flatMap fun a => [Value.string ⟨a.name.toArray⟩, Value.int .i64 a.len]
theorem infoStr : (Tryz.prog.info? 9).map (fun i => (i.zero, i.size, i.bytes)) = some (some (.string ⟨#[]⟩), 1, 16) := by kernel_rfl
theorem infoArr : (Tryz.prog.info? 43).map (fun i => (i.zero, i.size, i.bytes)) = some (some (.agg #[.string ⟨#[]⟩, .int .i64 0]), 2, 24) := by kernel_rfl
theorem sees_one {E : PP.Env} {σ : PP.St} {s t : List UInt8} (h : PP.sees E σ s = true) (hst : s ≠ t) : PP.sees E σ t = false := by
  unfold PP.sees at h ⊢
  simp only [Bool.and_eq_true, beq_iff_eq] at h
  rw [h.1, h.2]
  simpa using hst
def taskCells (a0 a1 vv va a4 a5 a6 a7 : Value) : Array Value := #[a0, a1, vv, va, a4, a5, a6, a7]
def DeclRel (w0 : World) (Z : Nat → Prop) (b : Nat) (X : Loc) (E : PP.Env) (σ : PP.St) (bl : List OwnB) (ks : List (Option Addr × List Tree)) (T : Nat) (a0 a1 a4 a5 a6 a7 : Value) (wr : World) : Prop :=
  ∃ σ' vs ar vv va bv ba, RowV w0.heap.size 9 1 vv (vs : List (List UInt8)).length (strCells vs) bv ∧ RowV w0.heap.size 43 2 va (ar : List ArrD).length (arrCells ar) ba ∧
    Inv w0 Z b X E σ' ((T, 49, #[a0, a1, vv, va, a4, a5, a6, a7]) :: (bv ++ (ba ++ bl))) ks wr ∧ vs.length ≤ 12 ∧ ar.length ≤ 4 ∧ ∀ n r, PP.decls E n σ' vs ar = some r → ∃ n', PP.decls E n' σ [] [] = some r
def DeclEnd (w0 : World) (Z : Nat → Prop) (b : Nat) (X : Loc) (E : PP.Env) (σ : PP.St) (bl : List OwnB) (ks : List (Option Addr × List Tree)) (T : Nat) (a0 a1 a4 a5 a6 a7 : Value) (r : Ending) (w' : World) : Prop :=
  ∃ σ' vs ar vv va bv ba, r = .returned (.tuple #[]) ∧ RowV w0.heap.size 9 1 vv (vs : List (List UInt8)).length (strCells vs) bv ∧ RowV w0.heap.size 43 2 va (ar : List ArrD).length (arrCells ar) ba ∧
    Inv w0 Z b X E σ' ((T, 49, #[a0, a1, vv, va, a4, a5, a6, a7]) :: (bv ++ (ba ++ bl))) ks w' ∧ vs.length ≤ 12 ∧ ar.length ≤ 4 ∧ ∃ n, PP.decls E n σ [] [] = some (σ', vs, ar)
theorem permA {α : Type} (t : α) (v a l : List α) : (t :: (v ++ (a ++ l))).Perm (a ++ (t :: (v ++ l))) := (List.Perm.cons t (List.perm_append_comm_assoc v a l)).trans List.perm_middle.symm
theorem permV {α : Type} (t : α) (v a l : List α) : (t :: (v ++ (a ++ l))).Perm (v ++ (t :: (a ++ l))) := List.perm_middle.symm
theorem le_arrayP {E : PP.Env} {σ : PP.St} : σ.next < (PP.arrayP E σ).1.next := by
  have h1 := (PP.le_nameP E (PP.adv σ)).1
  have h2 := (PP.le_require E (PP.nameP E (PP.adv σ)).1 [91]).1
  have h3 := (PP.le_numP E (PP.require E (PP.nameP E (PP.adv σ)).1 [91]) 1 32).1
  have h4 := (PP.le_require E (PP.numP E (PP.require E (PP.nameP E (PP.adv σ)).1 [91]) 1 32).1 [93]).1
  have h5 := (PP.le_require E (PP.require E (PP.numP E (PP.require E (PP.nameP E (PP.adv σ)).1 [91]) 1 32).1 [93]) [59]).1
  have h6 : (PP.arrayP E σ).1.next = (PP.require E (PP.require E (PP.numP E (PP.require E (PP.nameP E (PP.adv σ)).1 [91]) 1 32).1 [93]) [59]).next := rfl
  have h7 : (PP.adv σ).next = σ.next + 1 := rfl
  omega
theorem le_variableP {E : PP.Env} {σ : PP.St} : σ.next < (PP.variableP E σ).1.next := by
  have h1 := (PP.le_nameP E (PP.adv σ)).1
  have h2 := (PP.le_require E (PP.nameP E (PP.adv σ)).1 [59]).1
  have h6 : (PP.variableP E σ).1.next = (PP.require E (PP.nameP E (PP.adv σ)).1 [59]).next := rfl
  have h7 : (PP.adv σ).next = σ.next + 1 := rfl
  omega
theorem left_lt {E : PP.Env} {b : Nat} {X : Loc} {σ σ' : PP.St} {w w' : World} (h : PS w b X E σ) (h' : PS w' b X E σ') (he : σ.err = 0) (hlt : σ.next < E.ts.length) (hs : σ'.err ≠ 0 ∨ σ.next < σ'.next) : leftOf E b w' < leftOf E b w := by
  rw [leftOf_ps h, leftOf_ps h', if_pos he]
  rcases hs with hs | hs
  · rw [if_neg hs]; omega
  · split <;> omega

section
set_option maxHeartbeats 2000000
set_option maxRecDepth 100000
attribute [local go_sem ↓] Go.wp_at_zero Go.wp_at_succ
variable {w0 : World} {Z : Nat → Prop} {b : Nat} {X : Loc} {E : PP.Env} {σ : PP.St} {bl : List OwnB} {ks : List (Option Addr × List Tree)} {W : World}
theorem declarations_inv (T : Nat) (a0 a1 a4 a5 a6 a7 : Value) (h : Inv w0 Z b X E σ ((T, 49, #[a0, a1, .slice none 0 0, .slice none 0 0, a4, a5, a6, a7]) :: bl) ks W) :
    Calls Tryz.prog 43 #[.pointer (some ⟨b, 0, none⟩), .pointer (some ⟨T, 0, none⟩)] W (DeclEnd w0 Z b X E σ bl ks T a0 a1 a4 a5 a6 a7) := by
  have HI := Lib.hid h
  obtain ⟨i0, hi, hz0, hz1, hz2⟩ := info_parts infoStr
  obtain ⟨i1, ki, kz0, kz1, kz2⟩ := info_parts infoArr
  have H0 := Lib.hid hi
  have H1 := Lib.hid hz0
  have H2 := Lib.hid hz1
  have H3 := Lib.hid hz2
  have K0 := Lib.hid ki
  have K1 := Lib.hid kz0
  have K2 := Lib.hid kz1
  have K3 := Lib.hid kz2
  have hlen := h.ps.len
  clear hi hz0 hz1 hz2 ki kz0 kz1 kz2 h
  go_enter Tryz.func43, Tryz.ntmps43
  go_wp2_with fail
  go_loopw [4] (fun _ wr => DeclRel w0 Z b X E σ bl ks T a0 a1 a4 a5 a6 a7 wr) (fun _ wr => leftOf E b wr)
  case atStart => exact ⟨σ, [], [], _, _, [], [], RowV.nil _ _ _, RowV.nil _ _ _, HI.out, by simp, by simp, fun n r hr => ⟨n, hr⟩⟩
  case round =>
    obtain ⟨σ', vs, ar, vv, va, bv, ba, hrv, hra, hI, hlv, hla, hgo⟩ := hrel
    obtain ⟨Av, cv, rfl⟩ := hrv.form
    obtain ⟨Aa, ca, rfl⟩ := hra.form
    have HRV := Lib.hid hrv
    have HRA := Lib.hid hra
    have HW := Lib.hid hI
    have HGO := Lib.hid hgo
    clear hrv hra hI hgo HI
    cases sv : PP.sees E σ' PP.kwVar with
    | false =>
      cases sa : PP.sees E σ' PP.kwArray with
      | false =>
        have SV := Lib.hid sv
        have SA := Lib.hid sa
        clear sv sa
        go_wp2_with fail
        refine (sees_b ⟨#[118, 97, 114]⟩ SV.out HW.out).mono ?_
        rintro e w1 ⟨rfl, I1⟩
        have HI1 := Lib.hid I1
        clear I1
        go_wp2_with fail
        refine (sees_b ⟨#[97, 114, 114, 97, 121]⟩ SA.out HI1.out).mono ?_
        rintro e w2 ⟨rfl, I2⟩
        have HI2 := Lib.hid I2
        clear I2 HI1
        go_wp2_with fail
        go_end0
        obtain ⟨n', hn'⟩ := HGO.out 1 (σ', vs, ar) (by rw [PP.decls, SV.out, SA.out]; rfl)
        exact ⟨σ', vs, ar, _, _, bv, ba, rfl, HRV.out, HRA.out, HI2.out, hlv, hla, n', hn'⟩
      | true =>
        have hse := PP.sees_err E sa
        have SV := Lib.hid sv
        have SA := Lib.hid sa
        clear sv sa
        by_cases hl : ar.length < 4
        · have x1 : decide ((ar.length : Int) < 4) = true := by simp; omega
          have x2 : decide (ar.length < 4) = true := by simp; omega
          go_wp2_with fail
          refine (sees_b ⟨#[118, 97, 114]⟩ SV.out HW.out).mono ?_
          rintro e w1 ⟨rfl, I1⟩
          have HI1 := Lib.hid I1
          clear I1
          go_wp2_with fail
          refine (sees_b ⟨#[97, 114, 114, 97, 121]⟩ SA.out HI1.out).mono ?_
          rintro e w2 ⟨rfl, I2⟩
          have HI2 := Lib.hid I2
          clear I2 HI1
          go_wp2_with fail
          refine (sees_b ⟨#[97, 114, 114, 97, 121]⟩ SA.out HI2.out).mono ?_
          rintro e w3 ⟨rfl, I3⟩
          have HI3 := Lib.hid I3
          have t3 : w3.cell? ⟨T, 3, none⟩ = some (.slice Aa ar.length ca) := I3.b0.cell 3
          clear I3 HI2
          go_wp2_with fail
          have hbv : ∀ x ∈ ba, x ∈ ((T, 49, #[a0, a1, .slice Av vs.length cv, .slice Aa ar.length ca, a4, a5, a6, a7]) :: (bv ++ (ba ++ bl))) := fun x hx => by simp [hx]
          have HCALL := Lib.hid (array_inv HI3.out hse.2)
          have HCALLd := Lib.hid (array_inv HI3.out.drew hse.2)
          have HBV := Lib.hid hbv
          have hTb := HI3.out.ne (x := (T, 49, #[a0, a1, .slice Av vs.length cv, .slice Aa ar.length ca, a4, a5, a6, a7])) (by simp)
          have hw0 := HI3.out.fr.size
          clear hbv
          go_region_law (first | (refine step_append_lies _ (by rfl) _ _ 23 (by rfl) w0.heap.size 43 i1 (.agg #[.string ⟨#[]⟩, .int .i64 0]) 2 24 Tryz.underlying23 K0.out K1.out K2.out K3.out (by rfl) (by decide) _ _ _ (by rfl) (HRA.out.own (fun x hx => HI5a.out.blk (HBV.out x hx))) ⟨w5.heap.size, 0, none⟩ 1 1 [.string ⟨(PP.arrayP E σ').2.name.toArray⟩, .int .i64 (PP.arrayP E σ').2.len] (by rfl) (by rfl) (World.news_of_block (heap_alloc_new w5 _)) (by intro u hu; simp at hu; rcases hu with rfl | rfl <;> rfl) (by decide) (by unfold maxLen; omega) (by omega) (by simp; omega) (w5.heap.size + 1) (by simp) ?_; intro g cap w7 hown7 hg7 hat7 hlt7; obtain ⟨bs', hr', I7⟩ := Inv.append (rest := ((T, 49, #[a0, a1, .slice Av vs.length cv, .slice Aa ar.length ca, a4, a5, a6, a7]) :: (bv ++ bl))) (HI5a.out.perm (permA _ _ _ _)) HRA.out hown7 hg7 hat7 (by simp) rfl; have c7 : w7.cell? ⟨T, 3, none⟩ = some (.slice Aa ar.length ca) := (I7.blk (x := (T, 49, #[a0, a1, .slice Av vs.length cv, .slice Aa ar.length ca, a4, a5, a6, a7])) (by simp)).cell 3; have f7 := (I7.blk (x := (T, 49, #[a0, a1, .slice Av vs.length cv, .slice Aa ar.length ca, a4, a5, a6, a7])) (by simp)).frozen 3) | (go_simp; go_at_call 12; (first | (with_reducible refine HCALL.out.mono ?_) | (with_reducible refine HCALLd.out.mono ?_)); rintro e w5 ⟨rfl, I5⟩; have hs5 := I5.fr.size; have c5 : w5.cell? ⟨T, 3, none⟩ = some (.slice Aa ar.length ca) := I5.b0.cell 3; have hT5 := I5.b0.lt; have HI5a := Lib.hid (I5.more (.cells #[.string ⟨(PP.arrayP E σ').2.name.toArray⟩, .int .i64 (PP.arrayP E σ').2.len] 43))))
          all_goals
           have HQ := Lib.hid (I7.set (l1 := bs') 3 (.slice (some ⟨g, 0, none⟩) (ar.length + 1) cap))
           have hrow : RowV w0.heap.size 43 2 (.slice (some ⟨g, 0, none⟩) (ar.length + 1) cap) (ar ++ [(PP.arrayP E σ').2]).length (arrCells (ar ++ [(PP.arrayP E σ').2])) bs' := by have := hr'; simpa [arrCells] using this
           clear I7 hr' hown7 hg7 hat7 I5 HI5a HCALL HCALLd
           go_wp2_with fail
           go_roundw
           case rel =>
             refine ⟨(PP.arrayP E σ').1, vs, ar ++ [(PP.arrayP E σ').2], _, _, bv, bs', HRV.out, hrow, HQ.out.perm ?_, hlv, by simp; omega, fun n r hr => HGO.out (n + 1) r ?_⟩
             · exact (permA _ _ _ _).symm
             · rw [PP.decls, SV.out, SA.out]
               simp [hl, hr]
           case measure => exact left_lt HW.out.ps HQ.out.ps hse.1 hse.2 (.inr le_arrayP)
        · have x1 : decide ((ar.length : Int) < 4) = false := by simp; omega
          have x2 : decide (ar.length < 4) = false := by simp; omega
          go_wp2_with fail
          refine (sees_b ⟨#[118, 97, 114]⟩ SV.out HW.out).mono ?_
          rintro e w1 ⟨rfl, I1⟩
          have HI1 := Lib.hid I1
          clear I1
          go_wp2_with fail
          refine (sees_b ⟨#[97, 114, 114, 97, 121]⟩ SA.out HI1.out).mono ?_
          rintro e w2 ⟨rfl, I2⟩
          have HI2 := Lib.hid I2
          clear I2 HI1
          go_wp2_with fail
          refine (sees_b ⟨#[97, 114, 114, 97, 121]⟩ SA.out HI2.out).mono ?_
          rintro e w3 ⟨rfl, I3⟩
          have HI3 := Lib.hid I3
          have t3 : w3.cell? ⟨T, 3, none⟩ = some (.slice Aa ar.length ca) := I3.b0.cell 3
          clear I3 HI2
          go_wp2_with fail
          refine (sees_b ⟨#[118, 97, 114]⟩ SV.out HI3.out).mono ?_
          rintro e w4 ⟨rfl, I4⟩
          have HI4 := Lib.hid I4
          clear I4 HI3 t3
          go_wp2_with fail
          refine (here_inv HI4.out).mono ?_
          rintro e w5 ⟨rfl, I5⟩
          have HI5 := Lib.hid I5
          clear I5 HI4
          go_wp2_with fail
          refine (fail_inv (PP.here E σ') 5 HI5.out).mono ?_
          rintro e w6 ⟨rfl, I6⟩
          have HI6 := Lib.hid I6
          clear I6 HI5
          go_wp2_with fail
          go_roundw
          case rel =>
            refine ⟨PP.fail σ' (PP.here E σ') 5, vs, ar, _, _, bv, ba, HRV.out, HRA.out, HI6.out, hlv, hla, fun n r hr => HGO.out (n + 1) r ?_⟩
            rw [PP.decls, SV.out, SA.out]
            simp [hl, hr]
          case measure => exact left_lt HW.out.ps HI6.out.ps hse.1 hse.2 (.inl (PP.fail_err (by decide)))
    | true =>
      have sa : PP.sees E σ' PP.kwArray = false := sees_one sv (by decide)
      have hse := PP.sees_err E sv
      have SV := Lib.hid sv
      have SA := Lib.hid sa
      clear sv sa
      by_cases hl : vs.length < 12
      · have x1 : decide ((vs.length : Int) < 12) = true := by simp; omega
        have x2 : decide (vs.length < 12) = true := by simp; omega
        go_wp2_with fail
        refine (sees_b ⟨#[118, 97, 114]⟩ SV.out HW.out).mono ?_
        rintro e w1 ⟨rfl, I1⟩
        have HI1 := Lib.hid I1
        clear I1
        go_wp2_with fail
        refine (sees_b ⟨#[97, 114, 114, 97, 121]⟩ SA.out HI1.out).mono ?_
        rintro e w2 ⟨rfl, I2⟩
        have HI2 := Lib.hid I2
        clear I2 HI1
        go_wp2_with fail
        refine (sees_b ⟨#[118, 97, 114]⟩ SV.out HI2.out).mono ?_
        rintro e w3 ⟨rfl, I3⟩
        have HI3 := Lib.hid I3
        have t3 : w3.cell? ⟨T, 2, none⟩ = some (.slice Av vs.length cv) := I3.b0.cell 2
        clear I3 HI2
        go_wp2_with fail
        have hbv : ∀ x ∈ bv, x ∈ ((T, 49, #[a0, a1, .slice Av vs.length cv, .slice Aa ar.length ca, a4, a5, a6, a7]) :: (bv ++ (ba ++ bl))) := fun x hx => by simp [hx]
        have HCALL := Lib.hid (variable_inv HI3.out hse.2)
        have HCALLd := Lib.hid (variable_inv HI3.out.drew hse.2)
        have HBV := Lib.hid hbv
        have hTb := HI3.out.ne (x := (T, 49, #[a0, a1, .slice Av vs.length cv, .slice Aa ar.length ca, a4, a5, a6, a7])) (by simp)
        have hw0 := HI3.out.fr.size
        clear hbv
        go_region_law (first | (refine step_append_lies _ (by rfl) _ _ 47 (by rfl) w0.heap.size 9 i0 (.string ⟨#[]⟩) 1 16 Tryz.underlying47 H0.out H1.out H2.out H3.out (by rfl) (by decide) _ _ _ (by rfl) (HRV.out.own (fun x hx => HI5a.out.blk (HBV.out x hx))) ⟨w5.heap.size, 0, none⟩ 1 1 [.string ⟨(PP.variableP E σ').2.toArray⟩] (by rfl) (by rfl) (World.news_of_block (heap_alloc_new w5 _)) (by intro u hu; simp at hu; subst hu; rfl) (by decide) (by unfold maxLen; omega) (by omega) (by simp; omega) (w5.heap.size + 1) (by simp) ?_; intro g cap w7 hown7 hg7 hat7 hlt7; obtain ⟨bs', hr', I7⟩ := Inv.append (rest := ((T, 49, #[a0, a1, .slice Av vs.length cv, .slice Aa ar.length ca, a4, a5, a6, a7]) :: (ba ++ bl))) (HI5a.out.perm (permV _ _ _ _)) HRV.out hown7 hg7 hat7 (by simp) rfl; have c7 : w7.cell? ⟨T, 2, none⟩ = some (.slice Av vs.length cv) := (I7.blk (x := (T, 49, #[a0, a1, .slice Av vs.length cv, .slice Aa ar.length ca, a4, a5, a6, a7])) (by simp)).cell 2; have f7 := (I7.blk (x := (T, 49, #[a0, a1, .slice Av vs.length cv, .slice Aa ar.length ca, a4, a5, a6, a7])) (by simp)).frozen 2) | (go_simp; go_at_call 58; (first | (with_reducible refine HCALL.out.mono ?_) | (with_reducible refine HCALLd.out.mono ?_)); rintro e w5 ⟨rfl, I5⟩; have hs5 := I5.fr.size; have c5 : w5.cell? ⟨T, 2, none⟩ = some (.slice Av vs.length cv) := I5.b0.cell 2; have hT5 := I5.b0.lt; have HI5a := Lib.hid (I5.more (.cells #[.string ⟨(PP.variableP E σ').2.toArray⟩] 9))))
        all_goals
         have HQ := Lib.hid (I7.set (l1 := bs') 2 (.slice (some ⟨g, 0, none⟩) (vs.length + 1) cap))
         have hrow : RowV w0.heap.size 9 1 (.slice (some ⟨g, 0, none⟩) (vs.length + 1) cap) (vs ++ [(PP.variableP E σ').2]).length (strCells (vs ++ [(PP.variableP E σ').2])) bs' := by have := hr'; simpa [strCells] using this
         clear I7 hr' hown7 hg7 hat7 I5 HI5a HCALL HCALLd
         go_wp2_with fail
         go_roundw
         case rel =>
           refine ⟨(PP.variableP E σ').1, vs ++ [(PP.variableP E σ').2], ar, _, _, bs', ba, hrow, HRA.out, HQ.out.perm ?_, by simp; omega, hla, fun n r hr => HGO.out (n + 1) r ?_⟩
           · exact (permV _ _ _ _).symm
           · rw [PP.decls, SV.out, SA.out]
             simp [hl, hr]
         case measure => exact left_lt HW.out.ps HQ.out.ps hse.1 hse.2 (.inr le_variableP)
      · have x1 : decide ((vs.length : Int) < 12) = false := by simp; omega
        have x2 : decide (vs.length < 12) = false := by simp; omega
        go_wp2_with fail
        refine (sees_b ⟨#[118, 97, 114]⟩ SV.out HW.out).mono ?_
        rintro e w1 ⟨rfl, I1⟩
        have HI1 := Lib.hid I1
        clear I1
        go_wp2_with fail
        refine (sees_b ⟨#[97, 114, 114, 97, 121]⟩ SA.out HI1.out).mono ?_
        rintro e w2 ⟨rfl, I2⟩
        have HI2 := Lib.hid I2
        clear I2 HI1
        go_wp2_with fail
        refine (sees_b ⟨#[118, 97, 114]⟩ SV.out HI2.out).mono ?_
        rintro e w4 ⟨rfl, I4⟩
        have HI4 := Lib.hid I4
        have t3 : w4.cell? ⟨T, 2, none⟩ = some (.slice Av vs.length cv) := I4.b0.cell 2
        clear I4 HI2
        go_wp2_with fail
        refine (here_inv HI4.out).mono ?_
        rintro e w5 ⟨rfl, I5⟩
        have HI5 := Lib.hid I5
        clear I5 HI4
        go_wp2_with fail
        refine (fail_inv (PP.here E σ') 5 HI5.out).mono ?_
        rintro e w6 ⟨rfl, I6⟩
        have HI6 := Lib.hid I6
        clear I6 HI5
        go_wp2_with fail
        go_roundw
        case rel =>
          refine ⟨PP.fail σ' (PP.here E σ') 5, vs, ar, _, _, bv, ba, HRV.out, HRA.out, HI6.out, hlv, hla, fun n r hr => HGO.out (n + 1) r ?_⟩
          rw [PP.decls, SV.out, SA.out]
          simp [hl, hr]
        case measure => exact left_lt HW.out.ps HI6.out.ps hse.1 hse.2 (.inl (PP.fail_err (by decide)))
end
end Go.Proofs.YtglaecalbamnkaaGreatDoor
/- The contract of the parser's task. -/
namespace Go.Proofs.YtglaecalbamnkaaGreatDoor
open Go.RowKit Go.Maps
open PP (Tree ArrD TaskD)

theorem task_result {fn : Func} {p : Tmp} (h : fn.results = #[.cell p 49]) {tmps : Array Value} {w : World} {g : Nat} {a0 a1 a2 a3 a4 a5 a6 a7 : Value} (hp : tmps.getD p undef = .pointer (some ⟨g, 0, none⟩)) (hb : Blk w g 49 #[a0, a1, a2, a3, a4, a5, a6, a7]) :
    (results fn tmps).run Tryz.prog w = .ok (.agg #[a0, a1, a2, a3, a4, a5, a6, a7]) w :=
  results_cell_row h tmps w g 49 _ (0, 0) _ hp hb Tryz.underlying49 rfl (by kernel_rfl)
theorem permR {α : Type} (t r : α) (v a l : List α) : (t :: (v ++ (a ++ (r :: l)))).Perm (t :: r :: (v ++ (a ++ l))) := by
  refine List.Perm.cons t ?_
  rw [← List.append_assoc, ← List.append_assoc]
  exact List.perm_middle
/-- What a task's reader leaves. -/
def TaskEnd (w0 : World) (Z : Nat → Prop) (b : Nat) (X : Loc) (E : PP.Env) (σ : PP.St) (bl : List OwnB) (ks : List (Option Addr × List Tree)) (r : Ending) (w' : World) : Prop :=
  ∃ σ' nm per vs ar kids A c vv va bv ba, r = .returned (.agg #[.string ⟨(nm : List UInt8).toArray⟩, .int .i64 per, vv, va, .int .u8 47, .int .i64 0, .string ⟨#[]⟩, .slice A (kids : List Tree).length c]) ∧
    RowV w0.heap.size 9 1 vv (vs : List (List UInt8)).length (strCells vs) bv ∧ RowV w0.heap.size 43 2 va (ar : List ArrD).length (arrCells ar) ba ∧ vs.length ≤ 12 ∧ ar.length ≤ 4 ∧
    Inv w0 Z b X E σ' (bv ++ (ba ++ bl)) ((A, kids) :: ks) w' ∧ (∃ n, PP.taskP E n σ = some (σ', ⟨nm, per, vs, ar, .node 47 0 [] kids⟩)) ∧ σ.next < σ'.next
section
set_option maxHeartbeats 2000000
set_option maxRecDepth 100000
variable {w0 : World} {Z : Nat → Prop} {b : Nat} {X : Loc} {E : PP.Env} {σ : PP.St} {bl : List OwnB} {ks : List (Option Addr × List Tree)} {W : World}
theorem task_inv (h : Inv w0 Z b X E σ bl ks W) (hlt : σ.next < E.ts.length) :
    Calls Tryz.prog 14 #[.pointer (some ⟨b, 0, none⟩)] W (TaskEnd w0 Z b X E σ bl ks) := by
  have hlen := h.ps.len
  have I0 := h.alloc #[.string ⟨#[]⟩, .int .i64 0, .slice none 0 0, .slice none 0 0, .int .u8 0, .int .i64 0, .string ⟨#[]⟩, .slice none 0 0] 49 rfl
  have cb := I0.ps.cells.2.1
  have fb := I0.ps.frozen 1
  have hbW := h.ps.lt
  have hbne : b ≠ W.heap.size := by omega
  have HI1 := Lib.hid ((h.adv hlt).alloc #[.string ⟨#[]⟩, .int .i64 0, .slice none 0 0, .slice none 0 0, .int .u8 0, .int .i64 0, .string ⟨#[]⟩, .slice none 0 0] 49 (n := W.heap.size) (by simp))
  have HI2 := Lib.hid (HI1.out.alloc #[.string ⟨#[]⟩, .int .i64 0, .slice none 0 0, .slice none 0 0, .int .u8 0, .int .i64 0, .string ⟨#[]⟩, .slice none 0 0] 49 (n := W.heap.size + 1) (by simp))
  clear h I0
  go_enter Tryz.func14, Tryz.ntmps14
  go_wp2_with fail
  refine (nameP_inv HI2.out).mono ?_
  rintro e w3 ⟨rfl, I3⟩
  generalize hq : PP.nameP E (PP.adv σ) = q at *
  obtain ⟨σ3, nm⟩ := q
  have l3 : σ.next + 1 ≤ σ3.next := by have := (PP.le_nameP E (PP.adv σ)).1; rw [hq] at this; exact this
  have Hq := Lib.hid hq
  have I3' : Inv w0 Z b X E σ3 _ _ w3 := I3
  have x0 : w3.cell? ⟨W.heap.size + 1, 0, none⟩ = some (.string ⟨#[]⟩) := I3'.b0.cell 0
  have x1 := I3'.b0.frozen 0
  have I4 : Inv w0 Z b X E σ3 ((W.heap.size + 1, 49, #[.string ⟨nm.toArray⟩, .int .i64 0, .slice none 0 0, .slice none 0 0, .int .u8 0, .int .i64 0, .string ⟨#[]⟩, .slice none 0 0]) :: _) _ _ := I3'.set0 0 (.string ⟨nm.toArray⟩)
  have HI4 := Lib.hid I4
  clear I4 I3 I3' hq cb fb HI1 HI2
  go_wp2_with fail
  refine (require_inv ⟨#[112, 101, 114, 105, 111, 100]⟩ HI4.out).mono ?_
  rintro e w5 ⟨rfl, I5⟩
  have HI5 := Lib.hid I5
  clear I5 HI4 x0 x1
  go_wp2_with fail
  refine (numP_inv 1 1000 (by omega) (by omega) (by omega) HI5.out).mono ?_
  rintro e w6 ⟨rfl, I6⟩
  generalize hV : PP.numP E (PP.require E σ3 [112, 101, 114, 105, 111, 100]) 1 1000 = q at *
  obtain ⟨σ6, val⟩ := q
  have hV' : PP.numP E (PP.require E σ3 [112, 101, 114, 105, 111, 100]) 1 1000 = (σ6, val) := hV
  have l6 : σ3.next ≤ σ6.next := by have h1 := (PP.le_require E σ3 [112, 101, 114, 105, 111, 100]).1; have h2 := (PP.le_numP E (PP.require E σ3 [112, 101, 114, 105, 111, 100]) 1 1000).1; rw [hV'] at h2; exact Nat.le_trans h1 h2
  have I6' : Inv w0 Z b X E σ6 _ _ w6 := I6
  have HV := Lib.hid hV'
  have x0 : w6.cell? ⟨W.heap.size + 1, 1, none⟩ = some (.int .i64 0) := I6'.b0.cell 1
  have x1 := I6'.b0.frozen 1
  have I7 : Inv w0 Z b X E σ6 ((W.heap.size + 1, 49, #[.string ⟨nm.toArray⟩, .int .i64 val, .slice none 0 0, .slice none 0 0, .int .u8 0, .int .i64 0, .string ⟨#[]⟩, .slice none 0 0]) :: _) _ _ := I6'.set0 1 (.int .i64 val)
  have HI7 := Lib.hid I7
  clear I7 I6 I6' HI5 hV hV'
  go_wp2_with fail
  refine (here_inv HI7.out).mono ?_
  rintro e w8 ⟨rfl, I8⟩
  have HI8 := Lib.hid I8
  clear I8 HI7 x0 x1
  go_wp2_with fail
  refine (require_inv ⟨#[123]⟩ HI8.out).mono ?_
  rintro e w9 ⟨rfl, I9⟩
  have HD := Lib.hid (declarations_inv (W.heap.size + 1) _ _ _ _ _ _ I9)
  clear I9 HI8
  go_wp2_with fail
  refine HD.out.mono ?_
  rintro e w10 ⟨σ10, vs, ar, vv, va, bv, ba, rfl, hrv, hra, I10, hlv, hla, md, hd⟩
  have I10' := I10.perm (permR _ _ _ _ _)
  have HST := Lib.hid (statements_any w10 I10'.gx I10'.ps)
  have HI10 := Lib.hid I10'
  have HRV := Lib.hid hrv
  have HRA := Lib.hid hra
  have Hd := Lib.hid hd
  clear I10 I10' hrv hra hd HD
  go_wp2_with fail
  refine HST.out.mono ?_
  rintro e w11 ⟨A, c, kids, σ11, rfl, hk, hp, hf, ⟨ms, hs⟩, hn⟩
  have I11 := HI10.out.tree hp hf hk
  have Hs := Lib.hid hs
  have t4 : w11.cell? ⟨W.heap.size + 1, 4, none⟩ = some (.int .u8 0) := I11.b0.cell 4
  have t5 : w11.cell? ⟨W.heap.size + 1, 5, none⟩ = some (.int .i64 0) := I11.b0.cell 5
  have t6 : w11.cell? ⟨W.heap.size + 1, 6, none⟩ = some (.string ⟨#[]⟩) := I11.b0.cell 6
  have t7 : w11.cell? ⟨W.heap.size + 1, 7, none⟩ = some (.slice none 0 0) := I11.b0.cell 7
  have f4 := I11.b0.frozen 4
  have f5 := I11.b0.frozen 5
  have f6 := I11.b0.frozen 6
  have f7 := I11.b0.frozen 7
  have I12 : Inv w0 Z b X E σ11 ((W.heap.size + 1, 49, #[.string ⟨nm.toArray⟩, .int .i64 val, vv, va, .int .u8 47, .int .i64 0, .string ⟨#[]⟩, .slice A kids.length c]) :: _) _ _ := (((I11.set0 4 (.int .u8 47)).set0 5 (.int .i64 0)).set0 6 (.string ⟨#[]⟩)).set0 7 (.slice A kids.length c)
  have HI12 := Lib.hid I12
  clear I11 I12 HI10 hk hp hf hs HST
  go_wp2_with fail
  refine (require_inv ⟨#[125]⟩ HI12.out).mono ?_
  rintro e w13 ⟨rfl, I13⟩
  have hsz : (PP.require E σ11 [125]).err = 0 → PP.sizeL kids ≤ 1000000 := by
    intro he
    have h1 := (PP.stmt_size E ms).1 _ _ _ _ Hs.out (PP.ok_back (PP.le_require E σ11 [125]) he)
    have h2 := I13.ps.next
    have h3 := (PP.le_require E σ11 [125]).1
    have h4 : PP.sizeL [] = 0 := rfl
    have h5 : (PP.require E σ11 (⟨#[125]⟩ : ByteArray).data.toList).next = (PP.require E σ11 [125]).next := rfl
    simp only at h1
    omega
  have HL := Lib.hid (limit_inv I13 (PP.here E σ6) 47 0 [] A c kids (by simp) hsz)
  have t4 : w13.cell? ⟨W.heap.size + 1, 4, none⟩ = some (.int .u8 47) := I13.b0.cell 4
  have t5 : w13.cell? ⟨W.heap.size + 1, 5, none⟩ = some (.int .i64 0) := I13.b0.cell 5
  have t6 : w13.cell? ⟨W.heap.size + 1, 6, none⟩ = some (.string ⟨#[]⟩) := I13.b0.cell 6
  have t7 : w13.cell? ⟨W.heap.size + 1, 7, none⟩ = some (.slice A kids.length c) := I13.b0.cell 7
  clear I13 HI12 f4 f5 f6 f7 hsz
  go_wp2_with fail
  refine HL.out.mono ?_
  rintro e w14 ⟨rfl, I14⟩
  have c0 : w14.cell? ⟨W.heap.size + 1, 0, none⟩ = some (.string ⟨nm.toArray⟩) := I14.b0.cell 0
  have c1 : w14.cell? ⟨W.heap.size + 1, 1, none⟩ = some (.int .i64 val) := I14.b0.cell 1
  have c2 : w14.cell? ⟨W.heap.size + 1, 2, none⟩ = some vv := I14.b0.cell 2
  have c3 : w14.cell? ⟨W.heap.size + 1, 3, none⟩ = some va := I14.b0.cell 3
  have c4 : w14.cell? ⟨W.heap.size + 1, 4, none⟩ = some (.int .u8 47) := I14.b0.cell 4
  have c5 : w14.cell? ⟨W.heap.size + 1, 5, none⟩ = some (.int .i64 0) := I14.b0.cell 5
  have c6 : w14.cell? ⟨W.heap.size + 1, 6, none⟩ = some (.string ⟨#[]⟩) := I14.b0.cell 6
  have c7 : w14.cell? ⟨W.heap.size + 1, 7, none⟩ = some (.slice A kids.length c) := I14.b0.cell 7
  have r0 : w14.cell? ⟨W.heap.size, 0, none⟩ = some (.string ⟨#[]⟩) := I14.b1.cell 0
  have r1 : w14.cell? ⟨W.heap.size, 1, none⟩ = some (.int .i64 0) := I14.b1.cell 1
  have r2 : w14.cell? ⟨W.heap.size, 2, none⟩ = some (.slice none 0 0) := I14.b1.cell 2
  have r3 : w14.cell? ⟨W.heap.size, 3, none⟩ = some (.slice none 0 0) := I14.b1.cell 3
  have r4 : w14.cell? ⟨W.heap.size, 4, none⟩ = some (.int .u8 0) := I14.b1.cell 4
  have r5 : w14.cell? ⟨W.heap.size, 5, none⟩ = some (.int .i64 0) := I14.b1.cell 5
  have r6 : w14.cell? ⟨W.heap.size, 6, none⟩ = some (.string ⟨#[]⟩) := I14.b1.cell 6
  have r7 : w14.cell? ⟨W.heap.size, 7, none⟩ = some (.slice none 0 0) := I14.b1.cell 7
  have q0 := I14.b1.frozen 0
  have q1 := I14.b1.frozen 1
  have q2 := I14.b1.frozen 2
  have q3 := I14.b1.frozen 3
  have q4 := I14.b1.frozen 4
  have q5 := I14.b1.frozen 5
  have q6 := I14.b1.frozen 6
  have q7 := I14.b1.frozen 7
  have HQ := Lib.hid (fun v0 v1 v2 v3 v4 v5 v6 v7 => (show Inv w0 Z b X E _ (_ :: (W.heap.size, 49, #[v0, v1, v2, v3, v4, v5, v6, v7]) :: (bv ++ (ba ++ bl))) ((A, kids) :: ks) _ from (((((((I14.set1 0 v0).set1 1 v1).set1 2 v2).set1 3 v3).set1 4 v4).set1 5 v5).set1 6 v6).set1 7 v7))
  clear I14 HL t4 t5 t6 t7
  obtain ⟨Av, cv, rfl⟩ := HRV.out.form
  obtain ⟨Aa, ca, rfl⟩ := HRA.out.form
  go_wp2_with fail
  refine bodyPost_ret (task_result rfl rfl (HQ.out _ _ _ _ _ _ _ _).b1) rfl ?_
  refine ⟨_, nm, val, vs, ar, kids, A, c, _, _, bv, ba, rfl, HRV.out, HRA.out, hlv, hla, (HQ.out _ _ _ _ _ _ _ _).drop.drop, ⟨max md ms, ?_⟩, ?_⟩
  · unfold PP.taskP
    have e1 : PP.decls E (max md ms) (PP.require E σ6 [123]) [] [] = some (σ10, vs, ar) := PP.decls_le E (Nat.le_max_left _ _) Hd.out
    have e2 : PP.stmts E (max md ms) false σ10 [] = some (σ11, kids) := PP.stmts_le E (Nat.le_max_right _ _) Hs.out
    generalize max md ms = M at *
    simp only []
    rw [Hq.out]
    simp only []
    rw [show PP.kwPeriod = [112, 101, 114, 105, 111, 100] from rfl, HV.out]
    simp only []
    rw [e1, Option.bind_some]
    simp only []
    rw [e2]; rfl
  · rw [PP.limitP_next]
    have h1 := PP.decls_next E md _ _ _ _ Hd.out
    have h2 := (PP.le_require E σ6 [123]).1
    have h3 := (PP.le_require E σ11 [125]).1
    have h4 : (PP.require E σ6 (⟨#[123]⟩ : ByteArray).data.toList).next = (PP.require E σ6 [123]).next := rfl
    have h5 : (PP.require E σ11 (⟨#[125]⟩ : ByteArray).data.toList).next = (PP.require E σ11 [125]).next := rfl
    simp only at h1
    omega
end
end Go.Proofs.YtglaecalbamnkaaGreatDoor
/- The contracts of the parser's lists of arrays and of tasks (written by wip/genlist.py). -/
namespace Go.Proofs.YtglaecalbamnkaaGreatDoor
open Go.RowKit Go.Maps
open PP (Tree ArrD TaskD)

section
variable {w0 : World} {Z : Nat → Prop} {b : Nat} {X : Loc} {E : PP.Env} {σ : PP.St} {bl : List OwnB} {ks : List (Option Addr × List Tree)} {W : World}
variable {g g1 g2 g3 : Nat} {t t1 t2 t3 : TypeId} {cs c1 c2 c3 : Array Value}
theorem Inv.b3 (h : Inv w0 Z b X E σ ((g1, t1, c1) :: (g2, t2, c2) :: (g3, t3, c3) :: (g, t, cs) :: bl) ks W) : Blk W g t cs := h.blk (x := (g, t, cs)) (by simp)
end
/-- The state in which a list reads its next construct. -/
def sigL (E : PP.Env) (lim j : Nat) (σ : PP.St) : PP.St := if lim < j + 1 then PP.fail σ (PP.here E σ) 5 else σ
theorem sigL_next (E : PP.Env) (lim j : Nat) (σ : PP.St) : (sigL E lim j σ).next = σ.next := by
  unfold sigL PP.fail
  repeat' split
  all_goals rfl
theorem fail5_inv {w0 : World} {Z : Nat → Prop} {b : Nat} {X : Loc} {E : PP.Env} {σ : PP.St} {bl : List OwnB} {ks : List (Option Addr × List Tree)} {W : World} (h : Inv w0 Z b X E σ bl ks W) :
    Calls Tryz.prog 34 #[.pointer (some ⟨b, 0, none⟩), .int .i64 (PP.here E σ : Int), .int .i64 5] W fun r w' => r = .returned (.tuple #[]) ∧ Inv w0 Z b X E (PP.fail σ (PP.here E σ) 5) bl ks w' := fail_inv _ 5 h
theorem Blk.one {w : World} {g : Nat} {t : TypeId} {a : Value} (h : Blk w g t #[a]) : w.cell? ⟨g, 0, none⟩ = some a := h.cell 0
theorem permH {α : Type} (r : α) (v a l : List α) : (v ++ (a ++ (r :: l))).Perm (r :: (v ++ (a ++ l))) := by
  rw [← List.append_assoc, ← List.append_assoc]
  exact List.perm_middle
section
set_option maxHeartbeats 2000000
set_option maxRecDepth 100000
variable {w0 : World} {Z : Nat → Prop} {b : Nat} {X : Loc} {E : PP.Env} {σ : PP.St} {bl : List OwnB} {ks : List (Option Addr × List Tree)} {W : World}
theorem begins_inv (s : ByteArray) (h : Inv w0 Z b X E σ bl ks W) {n : Nat} (hn : W.heap.size = n) :
    Calls Tryz.prog 11 #[.pointer (some ⟨b, 0, none⟩), .string s] W fun r w' => r = .returned (.func (.func 36) #[] #[.pointer (some ⟨n, 0, none⟩), .pointer (some ⟨n + 1, 0, none⟩)]) ∧
      Inv w0 Z b X E σ ((n + 1, 9, #[.string s]) :: (n, 39, #[.pointer (some ⟨b, 0, none⟩)]) :: bl) ks w' := by
  subst hn
  have hmf : ∀ (fn : Fn) (first cap : Array Value) (w : World), (Instr.makeFunc fn first cap).run Tryz.prog w = .ok (.func fn first cap) w := fun _ _ _ _ => rfl
  have HI := Lib.hid ((h.alloc #[.pointer (some ⟨b, 0, none⟩)] 39 rfl).alloc #[.string s] 9 (n := W.heap.size + 1) (by simp))
  clear h
  go_enter Tryz.func11, Tryz.ntmps11
  go_wp2_with fail
  go_ret
  exact ⟨rfl, HI.out⟩
theorem begins1_inv (s : ByteArray) {B1 B2 : Nat} (h : Inv w0 Z b X E σ bl ks W) (m1 : (B1, 39, #[.pointer (some ⟨b, 0, none⟩)]) ∈ bl) (m2 : (B2, 9, #[.string s]) ∈ bl) {t : Bool} (ht : PP.sees E σ s.data.toList = t) :
    Calls Tryz.prog 36 #[.pointer (some ⟨B1, 0, none⟩), .pointer (some ⟨B2, 0, none⟩)] W fun r w' => r = .returned (.bool t) ∧ Inv w0 Z b X E σ bl ks w' := by
  have c1 : W.cell? ⟨B1, 0, none⟩ = some (.pointer (some ⟨b, 0, none⟩)) := (h.blk m1).cell 0
  have c2 : W.cell? ⟨B2, 0, none⟩ = some (.string s) := (h.blk m2).cell 0
  have HS := Lib.hid (sees_b s ht h)
  clear h m1 m2 ht
  go_enter Tryz.func36, Tryz.ntmps36
  go_wp2_with fail
  refine HS.out.mono ?_
  rintro e w1 ⟨rfl, I1⟩
  have HI1 := Lib.hid I1
  clear I1
  go_wp2_with fail
  go_ret
  exact ⟨rfl, HI1.out⟩
theorem cf_begins (u v : Value) (W : World) : Sem.run Tryz.prog (callFunc 36 #[u, v]) W = .ok (Next.enter 36 #[u, v]) W := by kernel_rfl
theorem cf_oneA (v : Value) (W : World) : Sem.run Tryz.prog (callFunc 12 #[v]) W = .ok (Next.enter 12 #[v]) W := by kernel_rfl
theorem cf_cloA (x y u v : Value) (W : World) : Sem.run Tryz.prog (callFunc 33 #[x, y, u, v]) W = .ok (Next.enter 33 #[x, y, u, v]) W := by kernel_rfl
def CloEndA (w0 : World) (Z : Nat → Prop) (b : Nat) (X : Loc) (E : PP.Env) (σ : PP.St) (bl : List OwnB) (ks : List (Option Addr × List Tree)) (r : Ending) (w' : World) : Prop :=
  r = .returned (.agg #[.string ⟨(PP.arrayP E σ).2.name.toArray⟩, .int .i64 (PP.arrayP E σ).2.len]) ∧ Inv w0 Z b X E (PP.arrayP E σ).1 bl ks w'
theorem cloA_inv {Bc Bl Bp Bo lim j : Nat} (h : Inv w0 Z b X E σ ((Bc, 3, #[.int .i64 ((j : Int))]) :: (Bl, 3, #[.int .i64 (lim : Int)]) :: (Bp, 39, #[.pointer (some ⟨b, 0, none⟩)]) :: (Bo, 45, #[.func (.func 12) #[.pointer (some ⟨b, 0, none⟩)] #[]]) :: bl) ks W) (hlt : σ.next < E.ts.length) (hj : j ≤ 1000000) :
    Calls Tryz.prog 33 #[.pointer (some ⟨Bc, 0, none⟩), .pointer (some ⟨Bl, 0, none⟩), .pointer (some ⟨Bp, 0, none⟩), .pointer (some ⟨Bo, 0, none⟩)] W (CloEndA w0 Z b X E (sigL E lim j σ) ((Bc, 3, #[.int .i64 ((j : Int) + 1)]) :: (Bl, 3, #[.int .i64 (lim : Int)]) :: (Bp, 39, #[.pointer (some ⟨b, 0, none⟩)]) :: (Bo, 45, #[.func (.func 12) #[.pointer (some ⟨b, 0, none⟩)] #[]]) :: bl) ks) := by
  have hcf := fun (v : Value) (W : World) => cf_oneA v W
  have I0 := h.alloc #[.string ⟨#[]⟩, .int .i64 0] 43 rfl
  have c0 : (W.alloc (.cells #[.string ⟨#[]⟩, .int .i64 0] 43)).cell? ⟨Bc, 0, none⟩ = some (.int .i64 (j : Int)) := I0.b1.cell 0
  have f0 := I0.b1.frozen 0
  have I1 : Inv w0 Z b X E σ ((W.heap.size, 43, #[.string ⟨#[]⟩, .int .i64 0]) :: (Bc, 3, #[.int .i64 ((j : Int) + 1)]) :: (Bl, 3, #[.int .i64 (lim : Int)]) :: (Bp, 39, #[.pointer (some ⟨b, 0, none⟩)]) :: (Bo, 45, #[.func (.func 12) #[.pointer (some ⟨b, 0, none⟩)] #[]]) :: bl) ks _ := I0.set1 0 (.int .i64 ((j : Int) + 1))
  have hBc : Bc < W.heap.size := h.b0.lt
  have hnx := sigL_next E lim j σ
  rw [World.setCell_alloc_past _ _ _ _ hBc] at I1
  have HI1 := Lib.hid I1
  have c1 : W.cell? ⟨Bc, 0, none⟩ = some (.int .i64 (j : Int)) := h.b0.cell 0
  have f1 := h.b0.frozen 0
  have c2 : W.cell? ⟨Bl, 0, none⟩ = some (.int .i64 (lim : Int)) := h.b1.cell 0
  have hne : Bl ≠ Bc := by
    have := h.nd
    simp at this
    omega
  have hBl : Bl < W.heap.size := h.b1.lt
  have c5 : W.cell? ⟨Bo, 0, none⟩ = some (.func (.func 12) #[.pointer (some ⟨b, 0, none⟩)] #[]) := h.b3.cell 0
  have hBo : Bo < W.heap.size := h.b3.lt
  have hBoc : Bo ≠ Bc := by
    have := h.nd
    simp at this
    omega
  clear h I0 I1
  by_cases hc : lim < j + 1
  · have x1 : decide ((lim : Int) < (j : Int) + 1) = true := by simp; omega
    have x2 : decide (lim < j + 1) = true := by simp; omega
    go_enter Tryz.func33, Tryz.ntmps33
    go_wp2_with fail
    generalize ((W.setCell ⟨Bc, 0, none⟩ (.int .i64 ((j : Int) + 1))).alloc (.cells #[.string ⟨#[]⟩, .int .i64 0] 43)) = w1 at *
    have c3 : w1.cell? ⟨Bp, 0, none⟩ = some (.pointer (some ⟨b, 0, none⟩)) := HI1.out.b3.cell 0
    have HH := Lib.hid (here_inv HI1.out)
    have HHd := Lib.hid (here_inv HI1.out.drew)
    clear c0 f0 c1 f1 c2
    go_region_held3 (fun W => W.cell? ⟨Bp, 0, none⟩ = some (.pointer (some ⟨b, 0, none⟩)))
      (with_reducible first | exact HI1.out.b3.one | exact HI1.out.drew.b3.one | exact I2.b3.one | exact I3.b3.one)
      (first | (go_at_call 35; (first | (with_reducible refine HH.out.mono ?_) | (with_reducible refine HHd.out.mono ?_)); rintro e w2 ⟨rfl, I2⟩) | (go_at_call 34; (with_reducible refine (fail5_inv I2).mono ?_); rintro e w3 ⟨rfl, I3⟩))
    have hsig : sigL E lim j σ = PP.fail σ (PP.here E σ) 5 := by unfold sigL; rw [if_pos hc]
    have I4 : Inv w0 Z b X E (sigL E lim j σ) _ _ w3 := hsig ▸ I3
    have HI4 := Lib.hid I4
    clear I2 I3 I4 HH HHd HI1 hsig c3
    have c4 : w3.cell? ⟨Bo, 0, none⟩ = some (.func (.func 12) #[.pointer (some ⟨b, 0, none⟩)] #[]) := (HI4.out.blk (x := (Bo, 45, #[.func (.func 12) #[.pointer (some ⟨b, 0, none⟩)] #[]])) (by simp)).cell 0
    go_wp2_with fail
    refine (array_inv HI4.out (by rw [hnx]; exact hlt)).mono ?_
    rintro e w6 ⟨rfl, I6⟩
    have r0 : w6.cell? ⟨W.heap.size, 0, none⟩ = some (.string ⟨#[]⟩) := I6.b0.cell 0
    have r1 : w6.cell? ⟨W.heap.size, 1, none⟩ = some (.int .i64 0) := I6.b0.cell 1
    have q0 := I6.b0.frozen 0
    have q1 := I6.b0.frozen 1
    have HQ := Lib.hid (fun v0 v1 => (show Inv w0 Z b X E _ ((W.heap.size, 43, #[v0, v1]) :: _) ks _ from (I6.set0 0 v0).set0 1 v1))
    clear I6 HI4
    go_wp2_with fail
    refine bodyPost_ret (array_result rfl rfl (HQ.out _ _).b0) rfl ?_
    exact ⟨rfl, (HQ.out _ _).drop⟩
  · have x1 : decide ((lim : Int) < (j : Int) + 1) = false := by simp; omega
    have x2 : decide (lim < j + 1) = false := by simp; omega
    go_enter Tryz.func33, Tryz.ntmps33
    have hsig : sigL E lim j σ = σ := by unfold sigL; rw [if_neg hc]
    have HI4 : Hid (Inv w0 Z b X E (sigL E lim j σ) _ _ _) := Lib.hid (hsig.symm ▸ HI1.out)
    clear hsig HI1
    go_wp2_with fail
    generalize ((W.setCell ⟨Bc, 0, none⟩ (.int .i64 ((j : Int) + 1))).alloc (.cells #[.string ⟨#[]⟩, .int .i64 0] 43)) = w3 at *
    refine (array_inv HI4.out (by rw [hnx]; exact hlt)).mono ?_
    rintro e w6 ⟨rfl, I6⟩
    have r0 : w6.cell? ⟨W.heap.size, 0, none⟩ = some (.string ⟨#[]⟩) := I6.b0.cell 0
    have r1 : w6.cell? ⟨W.heap.size, 1, none⟩ = some (.int .i64 0) := I6.b0.cell 1
    have q0 := I6.b0.frozen 0
    have q1 := I6.b0.frozen 1
    have HQ := Lib.hid (fun v0 v1 => (show Inv w0 Z b X E _ ((W.heap.size, 43, #[v0, v1]) :: _) ks _ from (I6.set0 0 v0).set0 1 v1))
    clear I6 HI4
    go_wp2_with fail
    refine bodyPost_ret (array_result rfl rfl (HQ.out _ _).b0) rfl ?_
    exact ⟨rfl, (HQ.out _ _).drop⟩
theorem cf_oneT (v : Value) (W : World) : Sem.run Tryz.prog (callFunc 14 #[v]) W = .ok (Next.enter 14 #[v]) W := by kernel_rfl
theorem cf_cloT (x y u v : Value) (W : World) : Sem.run Tryz.prog (callFunc 42 #[x, y, u, v]) W = .ok (Next.enter 42 #[x, y, u, v]) W := by kernel_rfl
theorem cloT_inv {Bc Bl Bp Bo lim j : Nat} (h : Inv w0 Z b X E σ ((Bc, 3, #[.int .i64 ((j : Int))]) :: (Bl, 3, #[.int .i64 (lim : Int)]) :: (Bp, 39, #[.pointer (some ⟨b, 0, none⟩)]) :: (Bo, 50, #[.func (.func 14) #[.pointer (some ⟨b, 0, none⟩)] #[]]) :: bl) ks W) (hlt : σ.next < E.ts.length) (hj : j ≤ 1000000) :
    Calls Tryz.prog 42 #[.pointer (some ⟨Bc, 0, none⟩), .pointer (some ⟨Bl, 0, none⟩), .pointer (some ⟨Bp, 0, none⟩), .pointer (some ⟨Bo, 0, none⟩)] W (TaskEnd w0 Z b X E (sigL E lim j σ) ((Bc, 3, #[.int .i64 ((j : Int) + 1)]) :: (Bl, 3, #[.int .i64 (lim : Int)]) :: (Bp, 39, #[.pointer (some ⟨b, 0, none⟩)]) :: (Bo, 50, #[.func (.func 14) #[.pointer (some ⟨b, 0, none⟩)] #[]]) :: bl) ks) := by
  have hcf := fun (v : Value) (W : World) => cf_oneT v W
  have I0 := h.alloc #[.string ⟨#[]⟩, .int .i64 0, .slice none 0 0, .slice none 0 0, .int .u8 0, .int .i64 0, .string ⟨#[]⟩, .slice none 0 0] 49 rfl
  have c0 : (W.alloc (.cells #[.string ⟨#[]⟩, .int .i64 0, .slice none 0 0, .slice none 0 0, .int .u8 0, .int .i64 0, .string ⟨#[]⟩, .slice none 0 0] 49)).cell? ⟨Bc, 0, none⟩ = some (.int .i64 (j : Int)) := I0.b1.cell 0
  have f0 := I0.b1.frozen 0
  have I1 : Inv w0 Z b X E σ ((W.heap.size, 49, #[.string ⟨#[]⟩, .int .i64 0, .slice none 0 0, .slice none 0 0, .int .u8 0, .int .i64 0, .string ⟨#[]⟩, .slice none 0 0]) :: (Bc, 3, #[.int .i64 ((j : Int) + 1)]) :: (Bl, 3, #[.int .i64 (lim : Int)]) :: (Bp, 39, #[.pointer (some ⟨b, 0, none⟩)]) :: (Bo, 50, #[.func (.func 14) #[.pointer (some ⟨b, 0, none⟩)] #[]]) :: bl) ks _ := I0.set1 0 (.int .i64 ((j : Int) + 1))
  have hBc : Bc < W.heap.size := h.b0.lt
  have hnx := sigL_next E lim j σ
  rw [World.setCell_alloc_past _ _ _ _ hBc] at I1
  have HI1 := Lib.hid I1
  have c1 : W.cell? ⟨Bc, 0, none⟩ = some (.int .i64 (j : Int)) := h.b0.cell 0
  have f1 := h.b0.frozen 0
  have c2 : W.cell? ⟨Bl, 0, none⟩ = some (.int .i64 (lim : Int)) := h.b1.cell 0
  have hne : Bl ≠ Bc := by
    have := h.nd
    simp at this
    omega
  have hBl : Bl < W.heap.size := h.b1.lt
  have c5 : W.cell? ⟨Bo, 0, none⟩ = some (.func (.func 14) #[.pointer (some ⟨b, 0, none⟩)] #[]) := h.b3.cell 0
  have hBo : Bo < W.heap.size := h.b3.lt
  have hBoc : Bo ≠ Bc := by
    have := h.nd
    simp at this
    omega
  clear h I0 I1
  by_cases hc : lim < j + 1
  · have x1 : decide ((lim : Int) < (j : Int) + 1) = true := by simp; omega
    have x2 : decide (lim < j + 1) = true := by simp; omega
    go_enter Tryz.func42, Tryz.ntmps42
    go_wp2_with fail
    generalize ((W.setCell ⟨Bc, 0, none⟩ (.int .i64 ((j : Int) + 1))).alloc (.cells #[.string ⟨#[]⟩, .int .i64 0, .slice none 0 0, .slice none 0 0, .int .u8 0, .int .i64 0, .string ⟨#[]⟩, .slice none 0 0] 49)) = w1 at *
    have c3 : w1.cell? ⟨Bp, 0, none⟩ = some (.pointer (some ⟨b, 0, none⟩)) := HI1.out.b3.cell 0
    have HH := Lib.hid (here_inv HI1.out)
    have HHd := Lib.hid (here_inv HI1.out.drew)
    clear c0 f0 c1 f1 c2
    go_region_held3 (fun W => W.cell? ⟨Bp, 0, none⟩ = some (.pointer (some ⟨b, 0, none⟩)))
      (with_reducible first | exact HI1.out.b3.one | exact HI1.out.drew.b3.one | exact I2.b3.one | exact I3.b3.one)
      (first | (go_at_call 35; (first | (with_reducible refine HH.out.mono ?_) | (with_reducible refine HHd.out.mono ?_)); rintro e w2 ⟨rfl, I2⟩) | (go_at_call 34; (with_reducible refine (fail5_inv I2).mono ?_); rintro e w3 ⟨rfl, I3⟩))
    have hsig : sigL E lim j σ = PP.fail σ (PP.here E σ) 5 := by unfold sigL; rw [if_pos hc]
    have I4 : Inv w0 Z b X E (sigL E lim j σ) _ _ w3 := hsig ▸ I3
    have HI4 := Lib.hid I4
    clear I2 I3 I4 HH HHd HI1 hsig c3
    have c4 : w3.cell? ⟨Bo, 0, none⟩ = some (.func (.func 14) #[.pointer (some ⟨b, 0, none⟩)] #[]) := (HI4.out.blk (x := (Bo, 50, #[.func (.func 14) #[.pointer (some ⟨b, 0, none⟩)] #[]])) (by simp)).cell 0
    go_wp2_with fail
    refine (task_inv HI4.out (by rw [hnx]; exact hlt)).mono ?_
    rintro e w6 ⟨σ6, nm, per, vs, ar, kids, A, c, vv, va, bv, ba, rfl, hrv, hra, hlv, hla, I6, ht, hnn⟩
    have I7 := I6.perm (permH _ _ _ _)
    have r0 : w6.cell? ⟨W.heap.size, 0, none⟩ = some (.string ⟨#[]⟩) := I7.b0.cell 0
    have q0 := I7.b0.frozen 0
    have r1 : w6.cell? ⟨W.heap.size, 1, none⟩ = some (.int .i64 0) := I7.b0.cell 1
    have q1 := I7.b0.frozen 1
    have r2 : w6.cell? ⟨W.heap.size, 2, none⟩ = some (.slice none 0 0) := I7.b0.cell 2
    have q2 := I7.b0.frozen 2
    have r3 : w6.cell? ⟨W.heap.size, 3, none⟩ = some (.slice none 0 0) := I7.b0.cell 3
    have q3 := I7.b0.frozen 3
    have r4 : w6.cell? ⟨W.heap.size, 4, none⟩ = some (.int .u8 0) := I7.b0.cell 4
    have q4 := I7.b0.frozen 4
    have r5 : w6.cell? ⟨W.heap.size, 5, none⟩ = some (.int .i64 0) := I7.b0.cell 5
    have q5 := I7.b0.frozen 5
    have r6 : w6.cell? ⟨W.heap.size, 6, none⟩ = some (.string ⟨#[]⟩) := I7.b0.cell 6
    have q6 := I7.b0.frozen 6
    have r7 : w6.cell? ⟨W.heap.size, 7, none⟩ = some (.slice none 0 0) := I7.b0.cell 7
    have q7 := I7.b0.frozen 7
    have HQ := Lib.hid (fun v0 v1 v2 v3 v4 v5 v6 v7 => (show Inv w0 Z b X E _ ((W.heap.size, 49, #[v0, v1, v2, v3, v4, v5, v6, v7]) :: _) _ _ from (((((((I7.set0 0 v0).set0 1 v1).set0 2 v2).set0 3 v3).set0 4 v4).set0 5 v5).set0 6 v6).set0 7 v7))
    have HX := Lib.hid (show RowV _ _ _ _ _ _ _ ∧ RowV _ _ _ _ _ _ _ ∧ _ from ⟨hrv, hra, ht⟩)
    obtain ⟨Av, cv, rfl⟩ := hrv.form
    obtain ⟨Aa, ca, rfl⟩ := hra.form
    clear I6 I7 HI4 hrv hra ht
    go_wp2_with fail
    refine bodyPost_ret (task_result rfl rfl (HQ.out _ _ _ _ _ _ _ _).b0) rfl ?_
    exact ⟨σ6, nm, per, vs, ar, kids, A, c, _, _, bv, ba, rfl, HX.out.1, HX.out.2.1, hlv, hla, (HQ.out _ _ _ _ _ _ _ _).drop, HX.out.2.2, hnn⟩
  · have x1 : decide ((lim : Int) < (j : Int) + 1) = false := by simp; omega
    have x2 : decide (lim < j + 1) = false := by simp; omega
    go_enter Tryz.func42, Tryz.ntmps42
    have hsig : sigL E lim j σ = σ := by unfold sigL; rw [if_neg hc]
    have HI4 : Hid (Inv w0 Z b X E (sigL E lim j σ) _ _ _) := Lib.hid (hsig.symm ▸ HI1.out)
    clear hsig HI1
    go_wp2_with fail
    generalize ((W.setCell ⟨Bc, 0, none⟩ (.int .i64 ((j : Int) + 1))).alloc (.cells #[.string ⟨#[]⟩, .int .i64 0, .slice none 0 0, .slice none 0 0, .int .u8 0, .int .i64 0, .string ⟨#[]⟩, .slice none 0 0] 49)) = w3 at *
    refine (task_inv HI4.out (by rw [hnx]; exact hlt)).mono ?_
    rintro e w6 ⟨σ6, nm, per, vs, ar, kids, A, c, vv, va, bv, ba, rfl, hrv, hra, hlv, hla, I6, ht, hnn⟩
    have I7 := I6.perm (permH _ _ _ _)
    have r0 : w6.cell? ⟨W.heap.size, 0, none⟩ = some (.string ⟨#[]⟩) := I7.b0.cell 0
    have q0 := I7.b0.frozen 0
    have r1 : w6.cell? ⟨W.heap.size, 1, none⟩ = some (.int .i64 0) := I7.b0.cell 1
    have q1 := I7.b0.frozen 1
    have r2 : w6.cell? ⟨W.heap.size, 2, none⟩ = some (.slice none 0 0) := I7.b0.cell 2
    have q2 := I7.b0.frozen 2
    have r3 : w6.cell? ⟨W.heap.size, 3, none⟩ = some (.slice none 0 0) := I7.b0.cell 3
    have q3 := I7.b0.frozen 3
    have r4 : w6.cell? ⟨W.heap.size, 4, none⟩ = some (.int .u8 0) := I7.b0.cell 4
    have q4 := I7.b0.frozen 4
    have r5 : w6.cell? ⟨W.heap.size, 5, none⟩ = some (.int .i64 0) := I7.b0.cell 5
    have q5 := I7.b0.frozen 5
    have r6 : w6.cell? ⟨W.heap.size, 6, none⟩ = some (.string ⟨#[]⟩) := I7.b0.cell 6
    have q6 := I7.b0.frozen 6
    have r7 : w6.cell? ⟨W.heap.size, 7, none⟩ = some (.slice none 0 0) := I7.b0.cell 7
    have q7 := I7.b0.frozen 7
    have HQ := Lib.hid (fun v0 v1 v2 v3 v4 v5 v6 v7 => (show Inv w0 Z b X E _ ((W.heap.size, 49, #[v0, v1, v2, v3, v4, v5, v6, v7]) :: _) _ _ from (((((((I7.set0 0 v0).set0 1 v1).set0 2 v2).set0 3 v3).set0 4 v4).set0 5 v5).set0 6 v6).set0 7 v7))
    have HX := Lib.hid (show RowV _ _ _ _ _ _ _ ∧ RowV _ _ _ _ _ _ _ ∧ _ from ⟨hrv, hra, ht⟩)
    obtain ⟨Av, cv, rfl⟩ := hrv.form
    obtain ⟨Aa, ca, rfl⟩ := hra.form
    clear I6 I7 HI4 hrv hra ht
    go_wp2_with fail
    refine bodyPost_ret (task_result rfl rfl (HQ.out _ _ _ _ _ _ _ _).b0) rfl ?_
    exact ⟨σ6, nm, per, vs, ar, kids, A, c, _, _, bv, ba, rfl, HX.out.1, HX.out.2.1, hlv, hla, (HQ.out _ _ _ _ _ _ _ _).drop, HX.out.2.2, hnn⟩
end
end Go.Proofs.YtglaecalbamnkaaGreatDoor
/- The contracts of the parser's sequences and lists of arrays and of tasks (written by wip/genseq.py). -/
namespace Go.Proofs.YtglaecalbamnkaaGreatDoor
open Go.RowKit Go.Maps
open PP (Tree ArrD TaskD)

theorem perm4 {α : Type} (v : List α) (x y z u : α) (l : List α) : (v ++ (x :: y :: z :: u :: l)).Perm (x :: y :: z :: u :: (v ++ l)) := List.perm_append_comm_assoc v [x, y, z, u] l
theorem perm6 {α : Type} (v a t x l : List α) (c d e f : α) : (v ++ (a ++ (c :: d :: e :: f :: (t ++ (x ++ l))))).Perm (t ++ ((v ++ (a ++ x)) ++ (c :: d :: e :: f :: l))) := by
  classical
  exact List.perm_iff_count.2 (fun y => by simp only [List.count_append, List.count_cons]; omega)
theorem perm7 {α : Type} (t x l : List α) (c d e f : α) : (t ++ (x ++ (c :: d :: e :: f :: l))).Perm (c :: d :: e :: f :: (t ++ (x ++ l))) := by
  classical
  exact List.perm_iff_count.2 (fun y => by simp only [List.count_append, List.count_cons]; omega)
theorem permL {α : Type} (c o l p : α) (r : List α) : (c :: o :: l :: p :: r).Perm (c :: l :: p :: o :: r) := by
  classical
  exact List.perm_iff_count.2 (fun y => by simp only [List.count_cons]; omega)
/-- An element of a row of tasks. -/
structure TaskEl where
  nm : List UInt8
  per : Int
  vs : List (List UInt8)
  ar : List ArrD
  kids : List Tree
  A : Option Addr
  c : Nat
  vv : Value
  va : Value
  bv : List OwnB
  ba : List OwnB
def TaskEl.cells (x : TaskEl) : List Value := [.string ⟨x.nm.toArray⟩, .int .i64 x.per, x.vv, x.va, .int .u8 47, .int .i64 0, .string ⟨#[]⟩, .slice x.A x.kids.length x.c]
def TaskEl.data (x : TaskEl) : TaskD := ⟨x.nm, x.per, x.vs, x.ar, .node 47 0 [] x.kids⟩
def tasksCells (xs : List TaskEl) : List Value := xs.flatMap TaskEl.cells
structure TaskEl.Ok (x : TaskEl) (base : Nat) (bx : List OwnB) (kx : List (Option Addr × List Tree)) : Prop where
  rv : RowV base 9 1 x.vv x.vs.length (strCells x.vs) x.bv
  ra : RowV base 43 2 x.va x.ar.length (arrCells x.ar) x.ba
  lv : x.vs.length ≤ 12
  la : x.ar.length ≤ 4
  mv : ∀ y ∈ x.bv, y ∈ bx
  ma : ∀ y ∈ x.ba, y ∈ bx
  mx : (x.A, x.kids) ∈ kx
theorem infoTask : (Tryz.prog.info? 49).map (fun i => (i.zero, i.size, i.bytes)) = some (some (.agg #[.string ⟨#[]⟩, .int .i64 0, .slice none 0 0, .slice none 0 0, .int .u8 0, .int .i64 0, .string ⟨#[]⟩, .slice none 0 0]), 8, 128) := by kernel_rfl

section
set_option maxHeartbeats 2000000
set_option maxRecDepth 100000
variable {w0 : World} {Z : Nat → Prop} {b : Nat} {X : Loc} {E : PP.Env} {σ : PP.St} {bl : List OwnB} {ks : List (Option Addr × List Tree)} {W : World}
def SeqARel (w0 : World) (Z : Nat → Prop) (b : Nat) (X : Loc) (E : PP.Env) (σ : PP.St) (bl : List OwnB) (ks : List (Option Addr × List Tree)) (kw : List UInt8) (lim Bc Bl Bp Bo : Nat) (va : Value) (wr : World) : Prop :=
  ∃ σ' ar ba, RowV w0.heap.size 43 2 va (ar : List ArrD).length (arrCells ar) ba ∧ Inv w0 Z b X E σ' (ba ++ ((Bc, 3, #[.int .i64 ((ar.length : Int))]) :: (Bl, 3, #[.int .i64 (lim : Int)]) :: (Bp, 39, #[.pointer (some ⟨b, 0, none⟩)]) :: (Bo, 45, #[.func (.func 12) #[.pointer (some ⟨b, 0, none⟩)] #[]]) :: bl)) ks wr ∧ ar.length ≤ σ'.next ∧ ∀ n r, PP.listP E kw lim (fun _ σ => some (PP.arrayP E σ)) n σ' ar = some r → ∃ n', PP.listP E kw lim (fun _ σ => some (PP.arrayP E σ)) n' σ [] = some r
def SeqAEnd (w0 : World) (Z : Nat → Prop) (b : Nat) (X : Loc) (E : PP.Env) (σ : PP.St) (bl : List OwnB) (ks : List (Option Addr × List Tree)) (kw : List UInt8) (lim Bc Bl Bp Bo : Nat) (r : Ending) (w' : World) : Prop :=
  ∃ σ' ar va ba, r = .returned va ∧ RowV w0.heap.size 43 2 va (ar : List ArrD).length (arrCells ar) ba ∧ Inv w0 Z b X E σ' (ba ++ ((Bc, 3, #[.int .i64 ((ar.length : Int))]) :: (Bl, 3, #[.int .i64 (lim : Int)]) :: (Bp, 39, #[.pointer (some ⟨b, 0, none⟩)]) :: (Bo, 45, #[.func (.func 12) #[.pointer (some ⟨b, 0, none⟩)] #[]]) :: bl)) ks w' ∧ ar.length ≤ σ'.next ∧ ∃ n, PP.listP E kw lim (fun _ σ => some (PP.arrayP E σ)) n σ [] = some (σ', ar)
theorem seqA_inv (s : ByteArray) {B1 B2 Bc Bl Bp Bo lim : Nat} (h : Inv w0 Z b X E σ ((Bc, 3, #[.int .i64 (0)]) :: (Bl, 3, #[.int .i64 (lim : Int)]) :: (Bp, 39, #[.pointer (some ⟨b, 0, none⟩)]) :: (Bo, 45, #[.func (.func 12) #[.pointer (some ⟨b, 0, none⟩)] #[]]) :: bl) ks W) (m1 : (B1, 39, #[.pointer (some ⟨b, 0, none⟩)]) ∈ bl) (m2 : (B2, 9, #[.string s]) ∈ bl) :
    Calls Tryz.prog 32 #[.pointer (some ⟨b, 0, none⟩), .func (.func 36) #[] #[.pointer (some ⟨B1, 0, none⟩), .pointer (some ⟨B2, 0, none⟩)], .func (.func 33) #[] #[.pointer (some ⟨Bc, 0, none⟩), .pointer (some ⟨Bl, 0, none⟩), .pointer (some ⟨Bp, 0, none⟩), .pointer (some ⟨Bo, 0, none⟩)]] W (SeqAEnd w0 Z b X E σ bl ks s.data.toList lim Bc Bl Bp Bo) := by
  have hcb := fun (u v : Value) (W : World) => cf_begins u v W
  have hcc := fun (x y u v : Value) (W : World) => cf_cloA x y u v W
  have hlen := h.ps.len
  have HI := Lib.hid h
  have M1 := Lib.hid m1
  have M2 := Lib.hid m2
  obtain ⟨i1, ki, kz0, kz1, kz2⟩ := info_parts infoArr
  have K0 := Lib.hid ki
  have K1 := Lib.hid kz0
  have K2 := Lib.hid kz1
  have K3 := Lib.hid kz2
  clear ki kz0 kz1 kz2 h m1 m2
  go_enter Tryz.func32, Tryz.ntmps32
  go_wp2_with fail
  go_loopw [7] (fun v wr => SeqARel w0 Z b X E σ bl ks s.data.toList lim Bc Bl Bp Bo v wr) (fun _ wr => leftOf E b wr)
  case atStart => exact ⟨σ, [], [], RowV.nil _ _ _, HI.out, Nat.zero_le _, fun n r hr => ⟨n, hr⟩⟩
  case round =>
    obtain ⟨σ', ar, ba, hra, hI, hcnt, hgo⟩ := hrel
    have hpn := hI.ps.next
    obtain ⟨Aa, ca, rfl⟩ := hra.form
    have HRA := Lib.hid hra
    have HW := Lib.hid hI
    have HGO := Lib.hid hgo
    skip
    clear hra hI hgo
    cases sv : PP.sees E σ' s.data.toList with
    | false =>
      have SV := Lib.hid sv
      clear sv
      go_wp2_with fail
      refine (begins1_inv s HW.out (by simp [M1.out]) (by simp [M2.out]) SV.out).mono ?_
      rintro e w1 ⟨rfl, I1⟩
      have HI1 := Lib.hid I1
      clear I1
      go_wp2_with fail
      go_ret
      obtain ⟨n', hn'⟩ := HGO.out 1 (σ', ar) (by rw [PP.listP, SV.out]; rfl)
      exact ⟨σ', ar, _, ba, rfl, HRA.out, HI1.out, hcnt, n', hn'⟩
    | true =>
      have hse := PP.sees_err E sv
      have SV := Lib.hid sv
      clear sv
      go_wp2_with fail
      refine (begins1_inv s HW.out (by simp [M1.out]) (by simp [M2.out]) SV.out).mono ?_
      rintro e w1 ⟨rfl, I1⟩
      have HI1 := Lib.hid (I1.perm (perm4 _ _ _ _ _ _))
      clear I1
      go_wp2_with fail
      refine (cloA_inv HI1.out hse.2 (by omega)).mono ?_
      rintro e w3 ⟨rfl, I3⟩
      have I4 := (I3.perm (perm4 _ _ _ _ _ _).symm)
      have HI4 := Lib.hid (I4.more (.cells #[.string ⟨(PP.arrayP E (sigL E lim ar.length σ')).2.name.toArray⟩, .int .i64 (PP.arrayP E (sigL E lim ar.length σ')).2.len] 43))
      have hs4 := I4.fr.size
      have hnx : σ'.next < (PP.arrayP E (sigL E lim ar.length σ')).1.next := by have := PP.arrayP_next E (sigL E lim ar.length σ'); rw [sigL_next] at this; exact this
      clear I3 I4 HI1
      generalize hY : PP.arrayP E (sigL E lim ar.length σ') = Y at *
      obtain ⟨σ3, ad⟩ := Y
      have HY := Lib.hid hY
      clear hY
      simp only [] at HI4 hnx
      go_wp2_with (at_builtin; refine wpList_append_lies _ rfl _ _ 23 rfl w0.heap.size 43 i1 (.agg #[.string ⟨#[]⟩, .int .i64 0]) 2 24 Tryz.underlying23 K0.out K1.out K2.out K3.out rfl (by decide) _ _ _ rfl (HRA.out.own (fun x hx => HI4.out.blk (by simp [hx]))) ⟨w3.heap.size, 0, none⟩ 1 1 [.string ⟨ad.name.toArray⟩, .int .i64 ad.len] rfl rfl ?c1 ?c2 (by decide) ?c3 ?c4 ?c5 (w3.heap.size + 1) ?c6 ?_)
      case c1 => exact World.news_of_block (heap_alloc_new w3 _)
      case c2 => intro u hu; simp at hu; rcases hu with rfl | rfl <;> rfl
      case c3 => unfold maxLen; omega
      case c4 => omega
      case c5 => simp; omega
      case c6 => simp
      intro g cap w7 hown7 hg7 hat7 hlt7
      obtain ⟨bs', hr', I7⟩ := Inv.append HI4.out HRA.out hown7 hg7 hat7 (by simp) rfl
      have HI7 := Lib.hid I7
      have HR7 := Lib.hid hr'
      clear I7 hr' hown7 hg7 hat7 HI4
      go_wp2_with fail
      go_roundw
      case rel =>
        refine ⟨σ3, ar ++ [ad], bs', by have := HR7.out; simpa [arrCells] using this, by have := HI7.out; simpa using this, by simp; omega, fun n r hr => HGO.out (n + 1) r ?_⟩
        rw [PP.listP, SV.out]
        simp only [if_true]
        rw [show (if lim < ar.length + 1 then PP.fail σ' (PP.here E σ') 5 else σ') = sigL E lim ar.length σ' from rfl, HY.out]
        exact hr
      case measure => exact left_lt HW.out.ps HI7.out.ps hse.1 hse.2 (.inr hnx)
def ListAEnd (w0 : World) (Z : Nat → Prop) (b : Nat) (X : Loc) (E : PP.Env) (σ : PP.St) (bl : List OwnB) (ks : List (Option Addr × List Tree)) (kw : List UInt8) (lim : Nat) (r : Ending) (w' : World) : Prop :=
  ∃ σ' ar va ba, r = .returned va ∧ RowV w0.heap.size 43 2 va (ar : List ArrD).length (arrCells ar) ba ∧ Inv w0 Z b X E σ' (ba ++ bl) ks w' ∧ ar.length ≤ σ'.next ∧ ∃ n, PP.listP E kw lim (fun _ σ => some (PP.arrayP E σ)) n σ [] = some (σ', ar)
theorem listA_inv (s : ByteArray) {B1 B2 lim : Nat} (h : Inv w0 Z b X E σ bl ks W) (m1 : (B1, 39, #[.pointer (some ⟨b, 0, none⟩)]) ∈ bl) (m2 : (B2, 9, #[.string s]) ∈ bl) :
    Calls Tryz.prog 10 #[.pointer (some ⟨b, 0, none⟩), .func (.func 36) #[] #[.pointer (some ⟨B1, 0, none⟩), .pointer (some ⟨B2, 0, none⟩)], .int .i64 (lim : Int), .func (.func 12) #[.pointer (some ⟨b, 0, none⟩)] #[]] W (ListAEnd w0 Z b X E σ bl ks s.data.toList lim) := by
  have hmf : ∀ (fn : Fn) (first cap : Array Value) (w : World), (Instr.makeFunc fn first cap).run Tryz.prog w = .ok (.func fn first cap) w := fun _ _ _ _ => rfl
  have I1 := (((h.alloc #[.pointer (some ⟨b, 0, none⟩)] 39 (n := W.heap.size) rfl).alloc #[.int .i64 (lim : Int)] 3 (n := W.heap.size + 1) (by simp)).alloc #[.func (.func 12) #[.pointer (some ⟨b, 0, none⟩)] #[]] 45 (n := W.heap.size + 2) (by simp)).alloc #[.int .i64 0] 3 (n := W.heap.size + 3) (by simp)
  have HS := Lib.hid (seqA_inv s (I1.perm (permL _ _ _ _ _)) m1 m2)
  clear h m1 m2 I1
  go_enter Tryz.func10, Tryz.ntmps10
  go_wp2_with fail
  refine HS.out.mono ?_
  rintro e w1 ⟨σ1, ar, va, ba, rfl, hr, I1, hcnt, hn⟩
  have HI2 := Lib.hid (I1.perm (perm4 _ _ _ _ _ _)).drop.drop.drop.drop
  have HR := Lib.hid hr
  have HN := Lib.hid hn
  skip
  clear hr hn I1
  go_wp2_with fail
  go_ret
  exact ⟨σ1, ar, va, ba, rfl, HR.out, HI2.out, hcnt, HN.out⟩
def SeqTRel (w0 : World) (Z : Nat → Prop) (b : Nat) (X : Loc) (E : PP.Env) (σ : PP.St) (bl : List OwnB) (kw : List UInt8) (lim Bc Bl Bp Bo : Nat) (va : Value) (wr : World) : Prop :=
  ∃ σ' ar ba bx kx, RowV w0.heap.size 49 8 va (ar : List TaskEl).length (tasksCells ar) ba ∧ (∀ x ∈ ar, TaskEl.Ok x w0.heap.size bx kx) ∧ Inv w0 Z b X E σ' (ba ++ (bx ++ ((Bc, 3, #[.int .i64 ((ar.length : Int))]) :: (Bl, 3, #[.int .i64 (lim : Int)]) :: (Bp, 39, #[.pointer (some ⟨b, 0, none⟩)]) :: (Bo, 50, #[.func (.func 14) #[.pointer (some ⟨b, 0, none⟩)] #[]]) :: bl))) kx wr ∧ ar.length ≤ σ'.next ∧ ∀ n r, PP.listP E kw lim (PP.taskP E) n σ' (ar.map TaskEl.data) = some r → ∃ n', PP.listP E kw lim (PP.taskP E) n' σ [] = some r
def SeqTEnd (w0 : World) (Z : Nat → Prop) (b : Nat) (X : Loc) (E : PP.Env) (σ : PP.St) (bl : List OwnB) (kw : List UInt8) (lim Bc Bl Bp Bo : Nat) (r : Ending) (w' : World) : Prop :=
  ∃ σ' ar va ba bx kx, r = .returned va ∧ RowV w0.heap.size 49 8 va (ar : List TaskEl).length (tasksCells ar) ba ∧ (∀ x ∈ ar, TaskEl.Ok x w0.heap.size bx kx) ∧ Inv w0 Z b X E σ' (ba ++ (bx ++ ((Bc, 3, #[.int .i64 ((ar.length : Int))]) :: (Bl, 3, #[.int .i64 (lim : Int)]) :: (Bp, 39, #[.pointer (some ⟨b, 0, none⟩)]) :: (Bo, 50, #[.func (.func 14) #[.pointer (some ⟨b, 0, none⟩)] #[]]) :: bl))) kx w' ∧ ar.length ≤ σ'.next ∧ ∃ n, PP.listP E kw lim (PP.taskP E) n σ [] = some (σ', (ar.map TaskEl.data))
theorem seqT_inv (s : ByteArray) {B1 B2 Bc Bl Bp Bo lim : Nat} (h : Inv w0 Z b X E σ ((Bc, 3, #[.int .i64 (0)]) :: (Bl, 3, #[.int .i64 (lim : Int)]) :: (Bp, 39, #[.pointer (some ⟨b, 0, none⟩)]) :: (Bo, 50, #[.func (.func 14) #[.pointer (some ⟨b, 0, none⟩)] #[]]) :: bl) ks W) (m1 : (B1, 39, #[.pointer (some ⟨b, 0, none⟩)]) ∈ bl) (m2 : (B2, 9, #[.string s]) ∈ bl) :
    Calls Tryz.prog 41 #[.pointer (some ⟨b, 0, none⟩), .func (.func 36) #[] #[.pointer (some ⟨B1, 0, none⟩), .pointer (some ⟨B2, 0, none⟩)], .func (.func 42) #[] #[.pointer (some ⟨Bc, 0, none⟩), .pointer (some ⟨Bl, 0, none⟩), .pointer (some ⟨Bp, 0, none⟩), .pointer (some ⟨Bo, 0, none⟩)]] W (SeqTEnd w0 Z b X E σ bl s.data.toList lim Bc Bl Bp Bo) := by
  have hcb := fun (u v : Value) (W : World) => cf_begins u v W
  have hcc := fun (x y u v : Value) (W : World) => cf_cloT x y u v W
  have hlen := h.ps.len
  have HI := Lib.hid h
  have M1 := Lib.hid m1
  have M2 := Lib.hid m2
  obtain ⟨i1, ki, kz0, kz1, kz2⟩ := info_parts infoTask
  have K0 := Lib.hid ki
  have K1 := Lib.hid kz0
  have K2 := Lib.hid kz1
  have K3 := Lib.hid kz2
  clear ki kz0 kz1 kz2 h m1 m2
  go_enter Tryz.func41, Tryz.ntmps41
  go_wp2_with fail
  go_loopw [7] (fun v wr => SeqTRel w0 Z b X E σ bl s.data.toList lim Bc Bl Bp Bo v wr) (fun _ wr => leftOf E b wr)
  case atStart => exact ⟨σ, [], [], [], ks, RowV.nil _ _ _, fun x hx => by simp at hx, HI.out, Nat.zero_le _, fun n r hr => ⟨n, hr⟩⟩
  case round =>
    obtain ⟨σ', ar, ba, bx, kx, hra, hok, hI, hcnt, hgo⟩ := hrel
    have hpn := hI.ps.next
    obtain ⟨Aa, ca, rfl⟩ := hra.form
    have HRA := Lib.hid hra
    have HW := Lib.hid hI
    have HGO := Lib.hid hgo
    have HOK := Lib.hid hok; clear hok
    clear hra hI hgo
    cases sv : PP.sees E σ' s.data.toList with
    | false =>
      have SV := Lib.hid sv
      clear sv
      go_wp2_with fail
      refine (begins1_inv s HW.out (by simp [M1.out]) (by simp [M2.out]) SV.out).mono ?_
      rintro e w1 ⟨rfl, I1⟩
      have HI1 := Lib.hid I1
      clear I1
      go_wp2_with fail
      go_ret
      obtain ⟨n', hn'⟩ := HGO.out 1 (σ', (ar.map TaskEl.data)) (by rw [PP.listP, SV.out]; rfl)
      exact ⟨σ', ar, _, ba, bx, kx, rfl, HRA.out, HOK.out, HI1.out, hcnt, n', hn'⟩
    | true =>
      have hse := PP.sees_err E sv
      have SV := Lib.hid sv
      clear sv
      go_wp2_with fail
      refine (begins1_inv s HW.out (by simp [M1.out]) (by simp [M2.out]) SV.out).mono ?_
      rintro e w1 ⟨rfl, I1⟩
      have HI1 := Lib.hid (I1.perm (perm7 _ _ _ _ _ _ _))
      clear I1
      go_wp2_with fail
      refine (cloT_inv HI1.out hse.2 (by omega)).mono ?_
      rintro e w3 ⟨σ3, nm, per, vs, tr, kids, A, c, vv, va, bv, bw, rfl, hrv, hrw, hlv, hlw, I3, ⟨mt, ht⟩, hnx⟩
      rw [sigL_next] at hnx
      have I4 := (I3.perm (perm6 _ _ _ _ _ _ _ _ _))
      have HI4 := Lib.hid (I4.more (.cells #[.string ⟨nm.toArray⟩, .int .i64 per, vv, va, .int .u8 47, .int .i64 0, .string ⟨#[]⟩, .slice A kids.length c] 49))
      have hs4 := I4.fr.size
      have HRV := Lib.hid hrv
      have HRW := Lib.hid hrw
      have HT := Lib.hid ht
      obtain ⟨Av, cv, rfl⟩ := hrv.form
      obtain ⟨Aw, cw, rfl⟩ := hrw.form
      clear I3 I4 HI1 ht hrv hrw
      go_wp2_with (at_builtin; refine wpList_append_lies _ rfl _ _ 24 rfl w0.heap.size 49 i1 (.agg #[.string ⟨#[]⟩, .int .i64 0, .slice none 0 0, .slice none 0 0, .int .u8 0, .int .i64 0, .string ⟨#[]⟩, .slice none 0 0]) 8 128 Tryz.underlying24 K0.out K1.out K2.out K3.out rfl (by decide) _ _ _ rfl (HRA.out.own (fun x hx => HI4.out.blk (by simp [hx]))) ⟨w3.heap.size, 0, none⟩ 1 1 [.string ⟨nm.toArray⟩, .int .i64 per, .slice Av vs.length cv, .slice Aw tr.length cw, .int .u8 47, .int .i64 0, .string ⟨#[]⟩, .slice A kids.length c] rfl rfl ?c1 ?c2 (by decide) ?c3 ?c4 ?c5 (w3.heap.size + 1) ?c6 ?_)
      case c1 => exact World.news_of_block (heap_alloc_new w3 _)
      case c2 => intro u hu; simp at hu; rcases hu with rfl | rfl | rfl | rfl | rfl | rfl | rfl | rfl <;> rfl
      case c3 => unfold maxLen; omega
      case c4 => omega
      case c5 => simp; omega
      case c6 => simp
      intro g cap w7 hown7 hg7 hat7 hlt7
      obtain ⟨bs', hr', I7⟩ := Inv.append HI4.out HRA.out hown7 hg7 hat7 (by simp) rfl
      have HI7 := Lib.hid I7
      have HR7 := Lib.hid hr'
      clear I7 hr' hown7 hg7 hat7 HI4
      go_wp2_with fail
      go_roundw
      case rel =>
        refine ⟨σ3, ar ++ [⟨nm, per, vs, tr, kids, A, c, _, _, bv, bw⟩], bs', bv ++ (bw ++ bx), (A, kids) :: kx, by have := HR7.out; simpa [tasksCells, TaskEl.cells] using this, fun x hx => ?_, by have := HI7.out; simpa using this, by simp; omega, fun n r hr => HGO.out (max mt n + 1) r ?_⟩
        · rcases List.mem_append.1 hx with hx | hx
          · have hk := HOK.out x hx
            exact ⟨hk.rv, hk.ra, hk.lv, hk.la, fun y hy => by simp [hk.mv y hy], fun y hy => by simp [hk.ma y hy], by simp [hk.mx]⟩
          · simp only [List.mem_cons, List.not_mem_nil, or_false] at hx
            subst hx
            exact ⟨HRV.out, HRW.out, hlv, hlw, fun y hy => by simp [hy], fun y hy => by simp [hy], by simp⟩
        · rw [PP.listP, SV.out]
          simp only [if_true]
          rw [List.length_map, show (if lim < ar.length + 1 then PP.fail σ' (PP.here E σ') 5 else σ') = sigL E lim ar.length σ' from rfl, PP.taskP_le E (Nat.le_max_left mt n) HT.out, Option.bind_some]
          rw [List.map_append] at hr
          exact PP.listP_le E (fun n σ r hh => PP.taskP_le E (Nat.le_succ n) hh) (Nat.le_max_right mt n) hr
      case measure => exact left_lt HW.out.ps HI7.out.ps hse.1 hse.2 (.inr hnx)
def ListTEnd (w0 : World) (Z : Nat → Prop) (b : Nat) (X : Loc) (E : PP.Env) (σ : PP.St) (bl : List OwnB) (kw : List UInt8) (lim : Nat) (r : Ending) (w' : World) : Prop :=
  ∃ σ' ar va ba bx kx, r = .returned va ∧ RowV w0.heap.size 49 8 va (ar : List TaskEl).length (tasksCells ar) ba ∧ (∀ x ∈ ar, TaskEl.Ok x w0.heap.size bx kx) ∧ Inv w0 Z b X E σ' (ba ++ (bx ++ bl)) kx w' ∧ ar.length ≤ σ'.next ∧ ∃ n, PP.listP E kw lim (PP.taskP E) n σ [] = some (σ', (ar.map TaskEl.data))
theorem listT_inv (s : ByteArray) {B1 B2 lim : Nat} (h : Inv w0 Z b X E σ bl ks W) (m1 : (B1, 39, #[.pointer (some ⟨b, 0, none⟩)]) ∈ bl) (m2 : (B2, 9, #[.string s]) ∈ bl) :
    Calls Tryz.prog 13 #[.pointer (some ⟨b, 0, none⟩), .func (.func 36) #[] #[.pointer (some ⟨B1, 0, none⟩), .pointer (some ⟨B2, 0, none⟩)], .int .i64 (lim : Int), .func (.func 14) #[.pointer (some ⟨b, 0, none⟩)] #[]] W (ListTEnd w0 Z b X E σ bl s.data.toList lim) := by
  have hmf : ∀ (fn : Fn) (first cap : Array Value) (w : World), (Instr.makeFunc fn first cap).run Tryz.prog w = .ok (.func fn first cap) w := fun _ _ _ _ => rfl
  have I1 := (((h.alloc #[.pointer (some ⟨b, 0, none⟩)] 39 (n := W.heap.size) rfl).alloc #[.int .i64 (lim : Int)] 3 (n := W.heap.size + 1) (by simp)).alloc #[.func (.func 14) #[.pointer (some ⟨b, 0, none⟩)] #[]] 50 (n := W.heap.size + 2) (by simp)).alloc #[.int .i64 0] 3 (n := W.heap.size + 3) (by simp)
  have HS := Lib.hid (seqT_inv s (I1.perm (permL _ _ _ _ _)) m1 m2)
  clear h m1 m2 I1
  go_enter Tryz.func13, Tryz.ntmps13
  go_wp2_with fail
  refine HS.out.mono ?_
  rintro e w1 ⟨σ1, ar, va, ba, bx, kx, rfl, hr, hok, I1, hcnt, hn⟩
  have HI2 := Lib.hid (I1.perm (perm7 _ _ _ _ _ _ _)).drop.drop.drop.drop
  have HR := Lib.hid hr
  have HN := Lib.hid hn
  have HOK := Lib.hid hok; clear hok
  clear hr hn I1
  go_wp2_with fail
  go_ret
  exact ⟨σ1, ar, va, ba, bx, kx, rfl, HR.out, HOK.out, HI2.out, hcnt, HN.out⟩
end
end Go.Proofs.YtglaecalbamnkaaGreatDoor
/- The contracts of word.Operators and of the parser's start. -/
namespace Go.Proofs.YtglaecalbamnkaaGreatDoor
open Go.RowKit Go.Maps Go.WideMaps Go.WideElems
open PP (Tree ArrD TaskD)

def opsCells (k : Nat) : List Value := (List.range k).map fun (i : Nat) => Value.int .u8 ((i : Int) + 6)
theorem opsCells_length (k : Nat) : (opsCells k).length = k := by simp [opsCells]
theorem opsCells_succ (k : Nat) : opsCells (k + 1) = opsCells k ++ [.int .u8 ((k : Int) + 6)] := by simp [opsCells, List.range_succ]
theorem opsCells_at (k i : Nat) (h : i < k) : (opsCells k)[i]? = some (.int .u8 ((i : Int) + 6)) := by simp [opsCells, h]
theorem infoByte : (Tryz.prog.info? 5).map (fun i => (i.zero, i.size, i.bytes)) = some (some (.int .u8 0), 1, 1) := by kernel_rfl

section
set_option maxHeartbeats 1000000
set_option maxRecDepth 100000
theorem operators_any (w : World) : Calls Tryz.prog 30 #[] w fun e w' => ∃ v, e = .returned v ∧ w'.ownsRow w.heap.size 5 1 v 18 (opsCells 18) ∧ Below w.heap.size w w' := by
  obtain ⟨i0, hi, hz0, hz1, hz2⟩ := info_parts infoByte
  have HI := Lib.hid hi
  have HZ0 := Lib.hid hz0
  have HZ1 := Lib.hid hz1
  have HZ2 := Lib.hid hz2
  clear hi hz0 hz1 hz2
  go_enter Tryz.func30, Tryz.ntmps30
  go_wp2_with fail
  go_loopw [1, 2] (fun v i wr => ∃ k : Nat, k ≤ 18 ∧ i = .int .u8 ((k : Int) + 6) ∧ wr.ownsRow w.heap.size 5 1 v k (opsCells k) ∧ Below w.heap.size w wr) (fun _ i _ => 24 - (intOf i).toNat)
  case atStart => exact ⟨0, by omega, rfl, World.ownsRow_nil _ _ _ _, Below.refl _ _⟩
  case round =>
    obtain ⟨k, hk, rfl, hown, hbel⟩ := hrel
    have hsz := hbel.size
    by_cases hlt : k < 18
    · have e1 : decide ((k : Int) + 6 ≤ 23) = true := by simp; omega
      go_wp2_with (at_builtin; refine wpList_append_lies _ rfl _ _ 72 rfl w.heap.size 5 i0 (.int .u8 0) 1 1 Tryz.underlying72 HI.out HZ0.out HZ1.out HZ2.out rfl (by decide) _ _ _ rfl (hown.alloc _) ⟨wr.heap.size, 0, none⟩ 1 1 [.int .u8 ((k : Int) + 6)] rfl rfl ?c1 ?c2 (by decide) ?c3 ?c4 ?c5 (wr.heap.size + 1) ?c6 ?_)
      case c1 => exact World.news_of_block (heap_alloc_new wr _)
      case c2 => intro u hu; simp at hu; subst hu; rfl
      case c3 => unfold maxLen; omega
      case c4 => omega
      case c5 => simp; omega
      case c6 => simp
      intro g cap w4 hown4 hg4 hat hlt4
      rw [← opsCells_succ] at hown4
      have hb4 : Below w.heap.size w w4 := Below.grown (hbel.alloc hsz _) hg4 (by simp; omega) (fun k hk => (hown.lt k hk).1)
      have HO := Lib.hid hown4
      clear hown4 hg4 hat hown
      go_wp2_with fail
      go_roundw
      case rel => exact ⟨k + 1, by omega, by go_num, HO.out, hb4⟩
      case measure => simp [intOf]; omega
    · obtain rfl : k = 18 := by omega
      go_wp2_with fail
      go_ret
      exact ⟨_, rfl, hown, hbel⟩
theorem cell_far_grown {w w' : World} {m g : Nat} {t : TypeId} {cs : Array Value} (h : Blk w g t cs) (hg : w.grownBy w' (some m)) (hne : g ≠ m) : Blk w' g t cs := (hg.block g h.lt (by simpa using hne)).trans h
/-- What the parser's start leaves. -/
def StartEnd (s : ByteArray) (w : World) (r : Ending) (w' : World) : Prop :=
  ∃ b X, r = .returned (.pointer (some ⟨b, 0, none⟩)) ∧ Gx w' b X ∧ PS w' b X ⟨(PL.lex s.data.toList).1.filter PL.solidT, s.size⟩ ⟨0, (PL.lex s.data.toList).2.1, (PL.lex s.data.toList).2.2⟩ ∧ Below w.heap.size w w' ∧ w.heap.size ≤ b
theorem OpsIs.below {w w' : World} (h : OpsIs w) (hb : Below w.heap.size w w') : OpsIs w' := by
  obtain ⟨t, fr, hs⟩ := h
  exact ⟨t, fr, (hb.block _ (Array.getElem?_eq_some_iff.1 hs).1).trans hs⟩
theorem OpsIs.lt {w : World} (h : OpsIs w) : 0 < w.heap.size := by
  obtain ⟨t, fr, hs⟩ := h
  exact (Array.getElem?_eq_some_iff.1 hs).1
def StartRel (w : World) (b m : Nat) (cs : Array Value) (A Ao : Option Addr) (co : Nat) (rs : List RT) (i : Value) (wr : World) : Prop :=
  ∃ k : Nat, k ≤ 18 ∧ i = .int .i64 (k : Int) ∧ wr.ownsMap Tryz.prog 9 (plainElem Tryz.prog 5) m k (opsD k) ∧ Blk wr b 54 cs ∧ RToks wr A rs ∧ (rs ≠ [] → ∀ a, A = some a → a.block < m) ∧
    wr.ownsRow (b + 1) 5 1 (.slice Ao 18 co) 18 (opsCells 18) ∧ Below w.heap.size w wr
theorem RToks.grown {w w' : World} {A : Option Addr} {rs : List RT} {m : Nat} (h : RToks w A rs) (hg : w.grownBy w' (some m)) (hm : rs ≠ [] → ∀ a, A = some a → a.block < m) : RToks w' A rs := fun hn => by
  obtain ⟨b, o, rfl, hlt, hc⟩ := h hn
  have hb := hg.block b hlt (by have := hm hn _ rfl; simp only [ne_eq, Option.some.injEq]; intro e; simp only at this; omega)
  refine ⟨b, o, rfl, Nat.lt_of_lt_of_le hlt hg.size, fun i r hi => ?_⟩
  obtain ⟨h0, h1, h2⟩ := hc i r hi
  exact ⟨(World.cell?_of_block (a := ⟨b, o + i * 3, none⟩) hb).trans h0, (World.cell?_of_block (a := ⟨b, o + i * 3 + 1, none⟩) hb).trans h1, (World.cell?_of_block (a := ⟨b, o + i * 3 + 2, none⟩) hb).trans h2⟩
end
section
set_option maxHeartbeats 2000000
set_option maxRecDepth 100000
attribute [local go_sem ↓] Go.wp_at_zero Go.wp_at_succ
theorem start_any (s : ByteArray) (w : World) (hs : s.size ≤ maxLen) (hg : SignsIs w) (hO : OpsIs w) : Calls Tryz.prog 9 #[.string s] w (StartEnd s w) := by
  have hmm := @run_makeMap Tryz.prog
  have hlx := lex_any s w hg hs
  have hsl : s.data.toList.length = s.size := Array.length_toList
  have hcnt : (PL.lex s.data.toList).1.length ≤ 65536 ∧ (∀ t ∈ (PL.lex s.data.toList).1, t.text.length ≤ 65536) := by
    generalize hX : PL.lex s.data.toList = X
    obtain ⟨ts, p, e⟩ := X
    by_cases he : e = 0
    · subst he
      have h1 := (PL.lex_ok hX rfl).1
      have h2 := PL.lex_count hX
      exact ⟨by simp only; omega, fun t ht => by have := PL.tok_len hX t ht; omega⟩
    · by_cases hl : s.data.toList.length ≤ 65536
      · obtain ⟨rfl, _, _⟩ := PL.lex_error hX he hl
        exact ⟨by simp, fun t ht => by simp at ht⟩
      · rw [PL.lex_full (by omega)] at hX
        injection hX with hX _
        subst hX
        exact ⟨by simp, fun t ht => by simp at ht⟩
  unfold LexEnd at hlx
  unfold maxLen at hs
  generalize hX : PL.lex s.data.toList = X at *
  obtain ⟨ts, p, er⟩ := X
  have HX := Lib.hid hX
  obtain ⟨hc1, hc2⟩ := hcnt
  have HC1 := Lib.hid hc1
  have HC2 := Lib.hid hc2
  have HLX := Lib.hid hlx
  have HG := Lib.hid hg
  have HO := Lib.hid hO
  clear hX hlx hc1 hc2 hg hO hsl
  simp only [] at HLX HC1 HC2
  go_enter Tryz.func9, Tryz.ntmps9
  go_wp2_with fail
  refine HLX.out.mono ?_
  rintro e w1 ⟨v1, rfl, ho1, hb1⟩
  obtain ⟨A1, c1, rfl, hr1⟩ := own_rt ho1
  have HSO := Lib.hid (solid_toks A1 ts.length c1 ts w1 rfl hr1 HC1.out)
  clear ho1 hr1 HLX
  go_wp2_with fail
  refine HSO.out.mono ?_
  rintro e w2 ⟨A2, c2, rfl, hr2, hb2⟩
  have hB2 := hb1.trans (hb2.mono hb1.size)
  have HR2 := Lib.hid hr2
  have HB2 := Lib.hid hB2
  clear hr2 hb1 hb2 hB2 HSO
  go_wp2_with fail
  have hws := HB2.out.size
  refine (operators_any _).mono ?_
  rintro e w4 ⟨v4, rfl, ho4, hb4⟩
  obtain ⟨Ao, co, rfl⟩ := own_form ho4
  have hsz4 : ((w2.alloc (.map #[] 0)).alloc (.cells #[.slice A2 (List.filter PL.solidT ts).length c2, .int .i64 0, .int .i64 (s.size : Int), .map (some w2.heap.size), .int .i64 (p : Int), .int .i64 (er : Int)] 54)).heap.size = w2.heap.size + 1 + 1 := by simp
  rw [hsz4] at ho4 hb4
  have hmap : w4.ownsMap Tryz.prog 9 (plainElem Tryz.prog 5) w2.heap.size 0 (opsD 0) :=
    ((World.ownsMap_made w2 _ _ _).alloc _).kept (row := none) (grown_of_below (hsz4 ▸ hb4) none) (by simp)
  have hblk : Blk w4 (w2.heap.size + 1) 54 #[.slice A2 (List.filter PL.solidT ts).length c2, .int .i64 0, .int .i64 (s.size : Int), .map (some w2.heap.size), .int .i64 (p : Int), .int .i64 (er : Int)] :=
    (hb4.block _ (by omega)).trans (by have := Blk.new (w2.alloc (.map #[] 0)) 54 #[.slice A2 (List.filter PL.solidT ts).length c2, .int .i64 0, .int .i64 (s.size : Int), .map (some w2.heap.size), .int .i64 (p : Int), .int .i64 (er : Int)]; simpa [Blk] using this)
  have hbb : Below w2.heap.size w2 w4 := (((Below.refl w2.heap.size w2).alloc (Nat.le_refl _) _).alloc (by simp) _).trans (hb4.mono (by omega))
  have hrt : RToks w4 A2 ((List.filter PL.solidT ts).map rtOf) := HR2.out.below hbb
  have hrlt : (List.filter PL.solidT ts).map rtOf ≠ [] → ∀ a, A2 = some a → a.block < w2.heap.size := by
    intro hn a ha
    obtain ⟨b, o, h1, h2, _⟩ := HR2.out hn
    rw [h1] at ha
    injection ha with ha
    subst ha; exact h2
  have hB4 : Below w.heap.size w w4 := HB2.out.trans (hbb.mono hws)
  have HREL := Lib.hid (show StartRel w (w2.heap.size + 1) w2.heap.size _ A2 Ao co _ (.int .i64 0) w4 from ⟨0, by omega, rfl, hmap, hblk, hrt, hrlt, ho4, hB4⟩)
  generalize w2.heap.size = m at *
  clear hmap hblk hbb hrt hrlt hB4 ho4 hb4 hsz4 HR2 HB2
  go_wp2_with fail
  go_loopw [26] (fun i wr => StartRel w (m + 1) m #[.slice A2 (List.filter PL.solidT ts).length c2, .int .i64 0, .int .i64 (s.size : Int), .map (some m), .int .i64 (p : Int), .int .i64 (er : Int)] A2 Ao co ((List.filter PL.solidT ts).map rtOf) i wr) (fun i _ => 18 - (intOf i).toNat)
  case atStart => exact HREL.out
  case round =>
    obtain ⟨k, hk, rfl, hmap, hblk, hrt, hrlt, hown, hbel⟩ := hrel
    have HMAP := Lib.hid hmap
    have HBLK := Lib.hid hblk
    have HRT := Lib.hid hrt
    have HRLT := Lib.hid hrlt
    have HOWN := Lib.hid hown
    have HBEL := Lib.hid hbel
    by_cases hlt : k < 18
    · obtain ⟨g, cap, hv, hg1, hg2, hg3, hcc⟩ := own_cells hown (by omega)
      have hck := hcc k _ (opsCells_at 18 k hlt)
      injection hv with hv1 hv2 hv3
      subst hv1 hv3
      have c3 : wr.cell? ⟨m + 1, 3, none⟩ = some (.map (some m)) := hblk.cell 3
      have hsy := fun (W : World) (hW : OpsIs W) => (show Calls Tryz.prog 31 #[.int .u8 ((k : Int) + 6)] W fun e w' => e = .returned (.string ⟨(PP.symbol (k + 6)).toArray⟩) ∧ W = w' from symbol_any (k + 6) W hW (by omega))
      have HSY := Lib.hid (hsy wr (HO.out.below hbel))
      have HSYd := Lib.hid (hsy wr.drew (HO.out.below (below_drewN hbel 1)))
      have hkl : (PP.symbol (k + 6)).length ≤ 2 := by
        have : ∀ i, i < 18 → (PP.symbol (i + 6)).length ≤ 2 := by decide
        exact this k hlt
      have hkey : keyOf Tryz.prog 9 (.string ⟨(PP.symbol (k + 6)).toArray⟩) = some (.string (PP.symbol (k + 6))) := keyOf_string_mk Tryz.underlying9 (by show (PP.symbol (k + 6)).toArray.size ≤ _; rw [List.size_toArray]; unfold maxLen; omega)
      have hval : plainElem (H := Unit) Tryz.prog 5 (.int .u8 ((k : Int) + 6)) = some (.lit (.int .u8 ((k : Int) + 6)), []) := plainElem_int Tryz.underlying5 (WalkArith.wf_u8 ⟨by omega, by omega⟩)
      have HKEY := Lib.hid hkey
      have HVAL := Lib.hid hval
      have p1 : (0 : Int) ≤ (k : Int) := by omega
      have p2 : (k : Int) < 18 := by omega
      clear hmap hblk hrt hrlt hown hbel hcc hsy hkey hval hkl
      go_wp2_with fail
      obtain ⟨w7, hrun7, hm7, hg7⟩ := (HMAP.out.drew).update (Maps.string_keyed Tryz.underlying9) Tryz.underlying52 (by unfold maxLen; omega) HKEY.out HVAL.out
      have HM7 := Lib.hid hm7
      have HG7 := Lib.hid hg7
      clear hm7 hg7
      go_region_law (first | (go_simp; go_at_call 31; (first | (with_reducible refine HSY.out.mono ?_) | (with_reducible refine HSYd.out.mono ?_)); rintro e w5 ⟨rfl, rfl⟩))
      all_goals
        have hm7 := HM7.out
        have hg7 := HG7.out
        have hg7' : wr.grownBy w7 (some m) := ⟨hg7.os, hg7.tape, hg7.output, hg7.size, hg7.block⟩
        have hm7' : w7.ownsMap Tryz.prog 9 (plainElem Tryz.prog 5) m (k + 1) (opsD (k + 1)) := hm7
        have hB := HBLK.out
        have hbl7 : Below w.heap.size w w7 := Below.grown HBEL.out hg7' HBEL.out.size (fun j hj => by injection hj with hj; omega)
        have HREL7 := Lib.hid (show StartRel w (m + 1) m _ A2 (some ⟨g, 0, none⟩) co _ (.int .i64 ((k : Int) + 1)) w7 from ⟨k + 1, by omega, by go_num, hm7', cell_far_grown hB hg7' (by omega), HRT.out.grown hg7' HRLT.out, HRLT.out, HOWN.out.kept hg7' (by right; intro e; have := (HOWN.out.lt _ e).1; omega), hbl7⟩)
        clear hm7 hm7' hg7 hg7' hB hbl7 hck c3
        go_wp2_with fail
        go_roundw
        case rel => first | exact HREL7.out | ((repeat apply Exists.intro); exact ⟨HREL7.out, rfl⟩)
        case measure => simp [intOf]; omega
    · obtain rfl : k = 18 := by omega
      clear hmap hblk hrt hrlt hown hbel
      go_wp2_with fail
      go_ret
      have hw := HBEL.out.size
      refine ⟨m + 1, ⟨A2, c2, m⟩, rfl, ⟨⟨HG.out.below HBEL.out HG.out.pos, by have := HG.out.pos; omega⟩, HO.out.below HBEL.out, by have := HO.out.lt; omega, HMAP.out, by show m ≠ m + 1; omega⟩, ?_, HBEL.out, by omega⟩
      rw [HX.out]
      refine ⟨HBLK.out, fun i t hi => ?_, ?_, fun t ht => HC2.out t (List.mem_filter.1 ht).1, Nat.zero_le _⟩
      · have hi' : (List.map rtOf (List.filter PL.solidT ts))[i]? = some (rtOf t) := by rw [List.getElem?_map]; simp only at hi; rw [hi]; rfl
        have hne : List.map rtOf (List.filter PL.solidT ts) ≠ [] := by intro e; rw [e] at hi'; simp at hi'
        obtain ⟨g, o, hA, hlt', hc⟩ := HRT.out hne
        obtain ⟨x0, x1, x2⟩ := hc i _ hi'
        have := HRLT.out hne _ hA
        exact ⟨g, o, hA, by simp only at this; omega, hlt', x0, x1, x2⟩
      · have := List.length_filter_le PL.solidT ts
        have := HC1.out
        simp only; omega
end
end Go.Proofs.YtglaecalbamnkaaGreatDoor
