/- The contract of the parser's declarations (written by wip/gendecl.py). -/
import Derived.Test.YtaaaicpjlaeiiaaDoorParQ
namespace Go.Proofs.YtaaaicpjlaeiiaaDoor
open Go.RowKit Go.Maps
open PP (Tree ArrD)

def strCells (vs : List (List UInt8)) : List Value := vs.map fun s => Value.string ⟨s.toArray⟩
def arrCells (ar : List ArrD) : List Value := ar.flatMap fun a => [Value.string ⟨a.name.toArray⟩, Value.int .i64 a.len]
theorem infoStr : (Tryd.prog.info? 9).map (fun i => (i.zero, i.size, i.bytes)) = some (some (.string ⟨#[]⟩), 1, 16) := by kernel_rfl
theorem infoArr : (Tryd.prog.info? 89).map (fun i => (i.zero, i.size, i.bytes)) = some (some (.agg #[.string ⟨#[]⟩, .int .i64 0]), 2, 24) := by kernel_rfl
theorem sees_one {E : PP.Env} {σ : PP.St} {s t : List UInt8} (h : PP.sees E σ s = true) (hst : s ≠ t) : PP.sees E σ t = false := by
  unfold PP.sees at h ⊢
  simp only [Bool.and_eq_true, beq_iff_eq] at h
  rw [h.1, h.2]
  simpa using hst
def taskCells (a0 a1 vv va a4 a5 a6 a7 : Value) : Array Value := #[a0, a1, vv, va, a4, a5, a6, a7]
def DeclRel (w0 : World) (Z : Nat → Prop) (b : Nat) (X : Loc) (E : PP.Env) (σ : PP.St) (bl : List OwnB) (ks : List (Option Addr × List Tree)) (T : Nat) (a0 a1 a4 a5 a6 a7 : Value) (wr : World) : Prop :=
  ∃ σ' vs ar vv va bv ba, RowV w0.heap.size 9 1 vv (vs : List (List UInt8)).length (strCells vs) bv ∧ RowV w0.heap.size 89 2 va (ar : List ArrD).length (arrCells ar) ba ∧
    Inv w0 Z b X E σ' ((T, 91, #[a0, a1, vv, va, a4, a5, a6, a7]) :: (bv ++ (ba ++ bl))) ks wr ∧ vs.length ≤ 12 ∧ ar.length ≤ 4 ∧ ∀ n r, PP.decls E n σ' vs ar = some r → ∃ n', PP.decls E n' σ [] [] = some r
def DeclEnd (w0 : World) (Z : Nat → Prop) (b : Nat) (X : Loc) (E : PP.Env) (σ : PP.St) (bl : List OwnB) (ks : List (Option Addr × List Tree)) (T : Nat) (a0 a1 a4 a5 a6 a7 : Value) (r : Ending) (w' : World) : Prop :=
  ∃ σ' vs ar vv va bv ba, r = .returned (.tuple #[]) ∧ RowV w0.heap.size 9 1 vv (vs : List (List UInt8)).length (strCells vs) bv ∧ RowV w0.heap.size 89 2 va (ar : List ArrD).length (arrCells ar) ba ∧
    Inv w0 Z b X E σ' ((T, 91, #[a0, a1, vv, va, a4, a5, a6, a7]) :: (bv ++ (ba ++ bl))) ks w' ∧ vs.length ≤ 12 ∧ ar.length ≤ 4 ∧ ∃ n, PP.decls E n σ [] [] = some (σ', vs, ar)
theorem permA {α : Type} (t : α) (v a l : List α) : (t :: (v ++ (a ++ l))).Perm (a ++ (t :: (v ++ l))) := (List.Perm.cons t (List.perm_append_comm_assoc v a l)).trans List.perm_middle.symm
theorem permV {α : Type} (t : α) (v a l : List α) : (t :: (v ++ (a ++ l))).Perm (v ++ (t :: (a ++ l))) := List.perm_middle.symm
theorem le_arrayP {E : PP.Env} {σ : PP.St} : σ.next < (PP.arrayP E σ).1.next := by
  have h1 := (PP.le_nameP E (PP.adv σ)).1
  have h2 := (PP.le_require E (PP.nameP E (PP.adv σ)).1 [91]).1
  have h3 := (PP.le_numP E (PP.require E (PP.nameP E (PP.adv σ)).1 [91]) 1 32).1
  have h4 := (PP.le_require E (PP.numP E (PP.require E (PP.nameP E (PP.adv σ)).1 [91]) 1 32).1 [93]).1
  have h5 := (PP.le_require E (PP.require E (PP.numP E (PP.require E (PP.nameP E (PP.adv σ)).1 [91]) 1 32).1 [93]) [59]).1
  have h6 : (PP.arrayP E σ).1.next = (PP.require E (PP.require E (PP.numP E (PP.require E (PP.nameP E (PP.adv σ)).1 [91]) 1 32).1 [93]) [59]).next := rfl
  have h7 : (PP.adv σ).next = σ.next + 1 := rfl
  omega
theorem le_variableP {E : PP.Env} {σ : PP.St} : σ.next < (PP.variableP E σ).1.next := by
  have h1 := (PP.le_nameP E (PP.adv σ)).1
  have h2 := (PP.le_require E (PP.nameP E (PP.adv σ)).1 [59]).1
  have h6 : (PP.variableP E σ).1.next = (PP.require E (PP.nameP E (PP.adv σ)).1 [59]).next := rfl
  have h7 : (PP.adv σ).next = σ.next + 1 := rfl
  omega
theorem left_lt {E : PP.Env} {b : Nat} {X : Loc} {σ σ' : PP.St} {w w' : World} (h : PS w b X E σ) (h' : PS w' b X E σ') (he : σ.err = 0) (hlt : σ.next < E.ts.length) (hs : σ'.err ≠ 0 ∨ σ.next < σ'.next) : leftOf E b w' < leftOf E b w := by
  rw [leftOf_ps h, leftOf_ps h', if_pos he]
  rcases hs with hs | hs
  · rw [if_neg hs]; omega
  · split <;> omega

section
set_option maxHeartbeats 2000000
set_option maxRecDepth 100000
attribute [local go_sem ↓] Go.wp_at_zero Go.wp_at_succ
variable {w0 : World} {Z : Nat → Prop} {b : Nat} {X : Loc} {E : PP.Env} {σ : PP.St} {bl : List OwnB} {ks : List (Option Addr × List Tree)} {W : World}
theorem declarations_inv (T : Nat) (a0 a1 a4 a5 a6 a7 : Value) (h : Inv w0 Z b X E σ ((T, 91, #[a0, a1, .slice none 0 0, .slice none 0 0, a4, a5, a6, a7]) :: bl) ks W) :
    Calls Tryd.prog 107 #[.pointer (some ⟨b, 0, none⟩), .pointer (some ⟨T, 0, none⟩)] W (DeclEnd w0 Z b X E σ bl ks T a0 a1 a4 a5 a6 a7) := by
  have HI := Lib.hid h
  obtain ⟨i0, hi, hz0, hz1, hz2⟩ := info_parts infoStr
  obtain ⟨i1, ki, kz0, kz1, kz2⟩ := info_parts infoArr
  have H0 := Lib.hid hi
  have H1 := Lib.hid hz0
  have H2 := Lib.hid hz1
  have H3 := Lib.hid hz2
  have K0 := Lib.hid ki
  have K1 := Lib.hid kz0
  have K2 := Lib.hid kz1
  have K3 := Lib.hid kz2
  have hlen := h.ps.len
  clear hi hz0 hz1 hz2 ki kz0 kz1 kz2 h
  go_enter Tryd.func107, Tryd.ntmps107
  go_wp2_with fail
  go_loopw [4] (fun _ wr => DeclRel w0 Z b X E σ bl ks T a0 a1 a4 a5 a6 a7 wr) (fun _ wr => leftOf E b wr)
  case atStart => exact ⟨σ, [], [], _, _, [], [], RowV.nil _ _ _, RowV.nil _ _ _, HI.out, by simp, by simp, fun n r hr => ⟨n, hr⟩⟩
  case round =>
    obtain ⟨σ', vs, ar, vv, va, bv, ba, hrv, hra, hI, hlv, hla, hgo⟩ := hrel
    obtain ⟨Av, cv, rfl⟩ := hrv.form
    obtain ⟨Aa, ca, rfl⟩ := hra.form
    have HRV := Lib.hid hrv
    have HRA := Lib.hid hra
    have HW := Lib.hid hI
    have HGO := Lib.hid hgo
    clear hrv hra hI hgo HI
    cases sv : PP.sees E σ' PP.kwVar with
    | false =>
      cases sa : PP.sees E σ' PP.kwArray with
      | false =>
        have SV := Lib.hid sv
        have SA := Lib.hid sa
        clear sv sa
        go_wp2_with fail
        refine (sees_b ⟨#[118, 97, 114]⟩ SV.out HW.out).mono ?_
        rintro e w1 ⟨rfl, I1⟩
        have HI1 := Lib.hid I1
        clear I1
        go_wp2_with fail
        refine (sees_b ⟨#[97, 114, 114, 97, 121]⟩ SA.out HI1.out).mono ?_
        rintro e w2 ⟨rfl, I2⟩
        have HI2 := Lib.hid I2
        clear I2 HI1
        go_wp2_with fail
        go_end0
        obtain ⟨n', hn'⟩ := HGO.out 1 (σ', vs, ar) (by rw [PP.decls, SV.out, SA.out]; rfl)
        exact ⟨σ', vs, ar, _, _, bv, ba, rfl, HRV.out, HRA.out, HI2.out, hlv, hla, n', hn'⟩
      | true =>
        have hse := PP.sees_err E sa
        have SV := Lib.hid sv
        have SA := Lib.hid sa
        clear sv sa
        by_cases hl : ar.length < 4
        · have x1 : decide ((ar.length : Int) < 4) = true := by simp; omega
          have x2 : decide (ar.length < 4) = true := by simp; omega
          go_wp2_with fail
          refine (sees_b ⟨#[118, 97, 114]⟩ SV.out HW.out).mono ?_
          rintro e w1 ⟨rfl, I1⟩
          have HI1 := Lib.hid I1
          clear I1
          go_wp2_with fail
          refine (sees_b ⟨#[97, 114, 114, 97, 121]⟩ SA.out HI1.out).mono ?_
          rintro e w2 ⟨rfl, I2⟩
          have HI2 := Lib.hid I2
          clear I2 HI1
          go_wp2_with fail
          refine (sees_b ⟨#[97, 114, 114, 97, 121]⟩ SA.out HI2.out).mono ?_
          rintro e w3 ⟨rfl, I3⟩
          have HI3 := Lib.hid I3
          have t3 : w3.cell? ⟨T, 3, none⟩ = some (.slice Aa ar.length ca) := I3.b0.cell 3
          clear I3 HI2
          go_wp2_with fail
          have hbv : ∀ x ∈ ba, x ∈ ((T, 91, #[a0, a1, .slice Av vs.length cv, .slice Aa ar.length ca, a4, a5, a6, a7]) :: (bv ++ (ba ++ bl))) := fun x hx => by simp [hx]
          have HCALL := Lib.hid (array_inv HI3.out hse.2)
          have HCALLd := Lib.hid (array_inv HI3.out.drew hse.2)
          have HBV := Lib.hid hbv
          have hTb := HI3.out.ne (x := (T, 91, #[a0, a1, .slice Av vs.length cv, .slice Aa ar.length ca, a4, a5, a6, a7])) (by simp)
          have hw0 := HI3.out.fr.size
          clear hbv
          go_region_law (first | (refine step_append_lies _ (by rfl) _ _ 36 (by rfl) w0.heap.size 89 i1 (.agg #[.string ⟨#[]⟩, .int .i64 0]) 2 24 Tryd.underlying36 K0.out K1.out K2.out K3.out (by rfl) (by decide) _ _ _ (by rfl) (HRA.out.own (fun x hx => HI5a.out.blk (HBV.out x hx))) ⟨w5.heap.size, 0, none⟩ 1 1 [.string ⟨(PP.arrayP E σ').2.name.toArray⟩, .int .i64 (PP.arrayP E σ').2.len] (by rfl) (by rfl) (World.news_of_block (heap_alloc_new w5 _)) (by intro u hu; simp at hu; rcases hu with rfl | rfl <;> rfl) (by decide) (by unfold maxLen; omega) (by omega) (by simp; omega) (w5.heap.size + 1) (by simp) ?_; intro g cap w7 hown7 hg7 hat7 hlt7; obtain ⟨bs', hr', I7⟩ := Inv.append (rest := ((T, 91, #[a0, a1, .slice Av vs.length cv, .slice Aa ar.length ca, a4, a5, a6, a7]) :: (bv ++ bl))) (HI5a.out.perm (permA _ _ _ _)) HRA.out hown7 hg7 hat7 (by simp) rfl; have c7 : w7.cell? ⟨T, 3, none⟩ = some (.slice Aa ar.length ca) := (I7.blk (x := (T, 91, #[a0, a1, .slice Av vs.length cv, .slice Aa ar.length ca, a4, a5, a6, a7])) (by simp)).cell 3; have f7 := (I7.blk (x := (T, 91, #[a0, a1, .slice Av vs.length cv, .slice Aa ar.length ca, a4, a5, a6, a7])) (by simp)).frozen 3) | (go_simp; go_at_call 67; (first | (with_reducible refine HCALL.out.mono ?_) | (with_reducible refine HCALLd.out.mono ?_)); rintro e w5 ⟨rfl, I5⟩; have hs5 := I5.fr.size; have c5 : w5.cell? ⟨T, 3, none⟩ = some (.slice Aa ar.length ca) := I5.b0.cell 3; have hT5 := I5.b0.lt; have HI5a := Lib.hid (I5.more (.cells #[.string ⟨(PP.arrayP E σ').2.name.toArray⟩, .int .i64 (PP.arrayP E σ').2.len] 89))))
          all_goals
           have HQ := Lib.hid (I7.set (l1 := bs') 3 (.slice (some ⟨g, 0, none⟩) (ar.length + 1) cap))
           have hrow : RowV w0.heap.size 89 2 (.slice (some ⟨g, 0, none⟩) (ar.length + 1) cap) (ar ++ [(PP.arrayP E σ').2]).length (arrCells (ar ++ [(PP.arrayP E σ').2])) bs' := by have := hr'; simpa [arrCells] using this
           clear I7 hr' hown7 hg7 hat7 I5 HI5a HCALL HCALLd
           go_wp2_with fail
           go_roundw
           case rel =>
             refine ⟨(PP.arrayP E σ').1, vs, ar ++ [(PP.arrayP E σ').2], _, _, bv, bs', HRV.out, hrow, HQ.out.perm ?_, hlv, by simp; omega, fun n r hr => HGO.out (n + 1) r ?_⟩
             · exact (permA _ _ _ _).symm
             · rw [PP.decls, SV.out, SA.out]
               simp [hl, hr]
           case measure => exact left_lt HW.out.ps HQ.out.ps hse.1 hse.2 (.inr le_arrayP)
        · have x1 : decide ((ar.length : Int) < 4) = false := by simp; omega
          have x2 : decide (ar.length < 4) = false := by simp; omega
          go_wp2_with fail
          refine (sees_b ⟨#[118, 97, 114]⟩ SV.out HW.out).mono ?_
          rintro e w1 ⟨rfl, I1⟩
          have HI1 := Lib.hid I1
          clear I1
          go_wp2_with fail
          refine (sees_b ⟨#[97, 114, 114, 97, 121]⟩ SA.out HI1.out).mono ?_
          rintro e w2 ⟨rfl, I2⟩
          have HI2 := Lib.hid I2
          clear I2 HI1
          go_wp2_with fail
          refine (sees_b ⟨#[97, 114, 114, 97, 121]⟩ SA.out HI2.out).mono ?_
          rintro e w3 ⟨rfl, I3⟩
          have HI3 := Lib.hid I3
          have t3 : w3.cell? ⟨T, 3, none⟩ = some (.slice Aa ar.length ca) := I3.b0.cell 3
          clear I3 HI2
          go_wp2_with fail
          refine (sees_b ⟨#[118, 97, 114]⟩ SV.out HI3.out).mono ?_
          rintro e w4 ⟨rfl, I4⟩
          have HI4 := Lib.hid I4
          clear I4 HI3 t3
          go_wp2_with fail
          refine (here_inv HI4.out).mono ?_
          rintro e w5 ⟨rfl, I5⟩
          have HI5 := Lib.hid I5
          clear I5 HI4
          go_wp2_with fail
          refine (fail_inv (PP.here E σ') 5 HI5.out).mono ?_
          rintro e w6 ⟨rfl, I6⟩
          have HI6 := Lib.hid I6
          clear I6 HI5
          go_wp2_with fail
          go_roundw
          case rel =>
            refine ⟨PP.fail σ' (PP.here E σ') 5, vs, ar, _, _, bv, ba, HRV.out, HRA.out, HI6.out, hlv, hla, fun n r hr => HGO.out (n + 1) r ?_⟩
            rw [PP.decls, SV.out, SA.out]
            simp [hl, hr]
          case measure => exact left_lt HW.out.ps HI6.out.ps hse.1 hse.2 (.inl (PP.fail_err (by decide)))
    | true =>
      have sa : PP.sees E σ' PP.kwArray = false := sees_one sv (by decide)
      have hse := PP.sees_err E sv
      have SV := Lib.hid sv
      have SA := Lib.hid sa
      clear sv sa
      by_cases hl : vs.length < 12
      · have x1 : decide ((vs.length : Int) < 12) = true := by simp; omega
        have x2 : decide (vs.length < 12) = true := by simp; omega
        go_wp2_with fail
        refine (sees_b ⟨#[118, 97, 114]⟩ SV.out HW.out).mono ?_
        rintro e w1 ⟨rfl, I1⟩
        have HI1 := Lib.hid I1
        clear I1
        go_wp2_with fail
        refine (sees_b ⟨#[97, 114, 114, 97, 121]⟩ SA.out HI1.out).mono ?_
        rintro e w2 ⟨rfl, I2⟩
        have HI2 := Lib.hid I2
        clear I2 HI1
        go_wp2_with fail
        refine (sees_b ⟨#[118, 97, 114]⟩ SV.out HI2.out).mono ?_
        rintro e w3 ⟨rfl, I3⟩
        have HI3 := Lib.hid I3
        have t3 : w3.cell? ⟨T, 2, none⟩ = some (.slice Av vs.length cv) := I3.b0.cell 2
        clear I3 HI2
        go_wp2_with fail
        have hbv : ∀ x ∈ bv, x ∈ ((T, 91, #[a0, a1, .slice Av vs.length cv, .slice Aa ar.length ca, a4, a5, a6, a7]) :: (bv ++ (ba ++ bl))) := fun x hx => by simp [hx]
        have HCALL := Lib.hid (variable_inv HI3.out hse.2)
        have HCALLd := Lib.hid (variable_inv HI3.out.drew hse.2)
        have HBV := Lib.hid hbv
        have hTb := HI3.out.ne (x := (T, 91, #[a0, a1, .slice Av vs.length cv, .slice Aa ar.length ca, a4, a5, a6, a7])) (by simp)
        have hw0 := HI3.out.fr.size
        clear hbv
        go_region_law (first | (refine step_append_lies _ (by rfl) _ _ 64 (by rfl) w0.heap.size 9 i0 (.string ⟨#[]⟩) 1 16 Tryd.underlying64 H0.out H1.out H2.out H3.out (by rfl) (by decide) _ _ _ (by rfl) (HRV.out.own (fun x hx => HI5a.out.blk (HBV.out x hx))) ⟨w5.heap.size, 0, none⟩ 1 1 [.string ⟨(PP.variableP E σ').2.toArray⟩] (by rfl) (by rfl) (World.news_of_block (heap_alloc_new w5 _)) (by intro u hu; simp at hu; subst hu; rfl) (by decide) (by unfold maxLen; omega) (by omega) (by simp; omega) (w5.heap.size + 1) (by simp) ?_; intro g cap w7 hown7 hg7 hat7 hlt7; obtain ⟨bs', hr', I7⟩ := Inv.append (rest := ((T, 91, #[a0, a1, .slice Av vs.length cv, .slice Aa ar.length ca, a4, a5, a6, a7]) :: (ba ++ bl))) (HI5a.out.perm (permV _ _ _ _)) HRV.out hown7 hg7 hat7 (by simp) rfl; have c7 : w7.cell? ⟨T, 2, none⟩ = some (.slice Av vs.length cv) := (I7.blk (x := (T, 91, #[a0, a1, .slice Av vs.length cv, .slice Aa ar.length ca, a4, a5, a6, a7])) (by simp)).cell 2; have f7 := (I7.blk (x := (T, 91, #[a0, a1, .slice Av vs.length cv, .slice Aa ar.length ca, a4, a5, a6, a7])) (by simp)).frozen 2) | (go_simp; go_at_call 126; (first | (with_reducible refine HCALL.out.mono ?_) | (with_reducible refine HCALLd.out.mono ?_)); rintro e w5 ⟨rfl, I5⟩; have hs5 := I5.fr.size; have c5 : w5.cell? ⟨T, 2, none⟩ = some (.slice Av vs.length cv) := I5.b0.cell 2; have hT5 := I5.b0.lt; have HI5a := Lib.hid (I5.more (.cells #[.string ⟨(PP.variableP E σ').2.toArray⟩] 9))))
        all_goals
         have HQ := Lib.hid (I7.set (l1 := bs') 2 (.slice (some ⟨g, 0, none⟩) (vs.length + 1) cap))
         have hrow : RowV w0.heap.size 9 1 (.slice (some ⟨g, 0, none⟩) (vs.length + 1) cap) (vs ++ [(PP.variableP E σ').2]).length (strCells (vs ++ [(PP.variableP E σ').2])) bs' := by have := hr'; simpa [strCells] using this
         clear I7 hr' hown7 hg7 hat7 I5 HI5a HCALL HCALLd
         go_wp2_with fail
         go_roundw
         case rel =>
           refine ⟨(PP.variableP E σ').1, vs ++ [(PP.variableP E σ').2], ar, _, _, bs', ba, hrow, HRA.out, HQ.out.perm ?_, by simp; omega, hla, fun n r hr => HGO.out (n + 1) r ?_⟩
           · exact (permV _ _ _ _).symm
           · rw [PP.decls, SV.out, SA.out]
             simp [hl, hr]
         case measure => exact left_lt HW.out.ps HQ.out.ps hse.1 hse.2 (.inr le_variableP)
      · have x1 : decide ((vs.length : Int) < 12) = false := by simp; omega
        have x2 : decide (vs.length < 12) = false := by simp; omega
        go_wp2_with fail
        refine (sees_b ⟨#[118, 97, 114]⟩ SV.out HW.out).mono ?_
        rintro e w1 ⟨rfl, I1⟩
        have HI1 := Lib.hid I1
        clear I1
        go_wp2_with fail
        refine (sees_b ⟨#[97, 114, 114, 97, 121]⟩ SA.out HI1.out).mono ?_
        rintro e w2 ⟨rfl, I2⟩
        have HI2 := Lib.hid I2
        clear I2 HI1
        go_wp2_with fail
        refine (sees_b ⟨#[118, 97, 114]⟩ SV.out HI2.out).mono ?_
        rintro e w4 ⟨rfl, I4⟩
        have HI4 := Lib.hid I4
        have t3 : w4.cell? ⟨T, 2, none⟩ = some (.slice Av vs.length cv) := I4.b0.cell 2
        clear I4 HI2
        go_wp2_with fail
        refine (here_inv HI4.out).mono ?_
        rintro e w5 ⟨rfl, I5⟩
        have HI5 := Lib.hid I5
        clear I5 HI4
        go_wp2_with fail
        refine (fail_inv (PP.here E σ') 5 HI5.out).mono ?_
        rintro e w6 ⟨rfl, I6⟩
        have HI6 := Lib.hid I6
        clear I6 HI5
        go_wp2_with fail
        go_roundw
        case rel =>
          refine ⟨PP.fail σ' (PP.here E σ') 5, vs, ar, _, _, bv, ba, HRV.out, HRA.out, HI6.out, hlv, hla, fun n r hr => HGO.out (n + 1) r ?_⟩
          rw [PP.decls, SV.out, SA.out]
          simp [hl, hr]
        case measure => exact left_lt HW.out.ps HI6.out.ps hse.1 hse.2 (.inl (PP.fail_err (by decide)))
end
end Go.Proofs.YtaaaicpjlaeiiaaDoor
