/- The contract of the reference's Program (written by wip/genrprog.py). -/
import Derived.Test.YtglaecalbamnkaaGreatDoorRdQ
import Derived.Test.YtglaecalbamnkaaGreatDoorPlainProg2
namespace Go.Proofs.YtglaecalbamnkaaGreatDoor
open Go.RowKit Go.Maps
open PP (Tree ArrD TaskD ProgD)
theorem permP {α : Type} (x : α) (v : List α) : (x :: v).Perm (v ++ [x]) := (List.perm_append_comm (l₁ := [x]) (l₂ := v))
def RSharedRel (w0 : World) (b : Nat) (Y : RLoc) (E : PP.Env) (σ : PP.St) (P : Nat) (wr : World) : Prop :=
  ∃ σ' ar va ba, RowV w0.heap.size 43 2 va (ar : List ArrD).length (arrCells ar) ba ∧ RInv w0 NoZ b Y E σ' ((P, 26, #[va, .slice none 0 0]) :: ba) [] wr ∧ ar.length ≤ 4 ∧
    ∀ n r, PP.listP E PP.kwShared 4 (fun _ σ => some (PP.arrayP E σ)) n σ' ar = some r → ∃ n', PP.listP E PP.kwShared 4 (fun _ σ => some (PP.arrayP E σ)) n' σ [] = some r
theorem permT {α : Type} (v a t l : List α) (p : α) : (v ++ (a ++ (p :: (t ++ l)))).Perm (t ++ (p :: (v ++ (a ++ l)))) := by
  classical
  exact List.perm_iff_count.2 (fun y => by simp only [List.count_append, List.count_cons]; omega)
theorem permU {α : Type} (v a t x l : List α) (p : α) : (t ++ (p :: (v ++ (a ++ (x ++ l))))).Perm (p :: (t ++ ((v ++ (a ++ x)) ++ l))) := by
  classical
  exact List.perm_iff_count.2 (fun y => by simp only [List.count_append, List.count_cons]; omega)
theorem RInv.nob {w0 W : World} {Z : Nat → Prop} {b : Nat} {Y : RLoc} {E : PP.Env} {σ : PP.St} {bl : List OwnB} {ks : List (Option Addr × List Tree)} (h : RInv w0 Z b Y E σ bl ks W) : RInv w0 Z b Y E σ [] [] W :=
  ⟨h.ps, h.ps0, h.fr, h.zb, fun x hx => by simp at hx, by simp, fun x hx => by simp at hx⟩
def RTaskRel (w0 : World) (b : Nat) (Y : RLoc) (E : PP.Env) (σ0 σ3 : PP.St) (P : Nat) (va : Value) (ba : List OwnB) (wr : World) : Prop :=
  ∃ σ' : PP.St, (σ'.err = 0 ∧ ∃ els vt bt bx kx, RowV w0.heap.size 49 8 vt (els : List TaskEl).length (tasksCells els) bt ∧ (∀ x ∈ els, TaskEl.Ok x w0.heap.size bx kx) ∧ RInv w0 NoZ b Y E σ' ((P, 26, #[va, vt]) :: (bt ++ (bx ++ ba))) kx wr ∧ els.length ≤ 8 ∧
      ∀ n r, PP.listP E PP.kwTask 8 (PP.taskP E) n σ' (els.map TaskEl.data) = some r → ∃ n', PP.listP E PP.kwTask 8 (PP.taskP E) n' σ3 [] = some r) ∨
    (σ'.err ≠ 0 ∧ RInv w0 NoZ b Y E σ' [] [] wr ∧ ∃ n q, PP.programP E n σ0 = some q ∧ q.1.err = σ'.err ∧ q.1.off = σ'.off)
theorem progend_zero {s : ByteArray} {w w' : World} {n : Nat} {q : PP.St × ProgD} {o e : Nat} (hpr : PP.programP (envOf s) n (sigOf s) = some q) (he : q.1.err = e) (ho : q.1.off = o) (h0 : e ≠ 0) (hB : Below w.heap.size w w') :
    ProgEnd s w (.returned (.tuple #[.agg #[.slice none 0 0, .slice none 0 0], .int .i64 (o : Int), .int .i64 (e : Int)])) w' := by
  have h1 : PP.out zeroP q = (zeroP, o, e) := by unfold PP.out; rw [if_neg (by rw [he]; exact h0), he, ho]
  refine ⟨_, _, n, q, [], [], [], [], [], hpr, by rw [h1], ?_, hB⟩
  rw [h1]
  exact ⟨RowV.nil _ _ _, RowV.nil _ _ _, rfl, fun x hx => by simp at hx, fun x hx => by simp at hx, fun x hx => by simp at hx, by simp [zeroP], by simp⟩
theorem progend_full {s : ByteArray} {w w1 w5 : World} {b n ca ct : Nat} {Y : RLoc} {E : PP.Env} {σ2 : PP.St} {ar : List ArrD} {els : List TaskEl} {Aa At : Option Addr} {ba bt bx : List OwnB} {kx : List (Option Addr × List Tree)}
    (hpr : PP.programP (envOf s) n (sigOf s) = some (σ2, ⟨ar, els.map TaskEl.data⟩)) (he : σ2.err = 0) (hra : RowV w1.heap.size 43 2 (.slice Aa ar.length ca) ar.length (arrCells ar) ba) (hrt : RowV w1.heap.size 49 8 (.slice At els.length ct) els.length (tasksCells els) bt)
    (hok : ∀ x ∈ els, TaskEl.Ok x w1.heap.size bx kx) (I : RInv w1 NoZ b Y E σ2 ((w1.heap.size, 26, #[.slice Aa ar.length ca, .slice At els.length ct]) :: (bt ++ (bx ++ ba))) kx w5) (hws : w.heap.size ≤ w1.heap.size) (hlt : w.heap.size < w1.heap.size) (hla : ar.length ≤ 4) (hle : els.length ≤ 8) {v0 v1 : Value}
    (hB : Below w.heap.size w ((w5.setCell ⟨w.heap.size, 0, none⟩ v0).setCell ⟨w.heap.size, 1, none⟩ v1)) :
    ProgEnd s w (.returned (.tuple #[.agg #[.slice Aa ar.length ca, .slice At els.length ct], .int .i64 0, .int .i64 0])) ((w5.setCell ⟨w.heap.size, 0, none⟩ v0).setCell ⟨w.heap.size, 1, none⟩ v1) := by
  have h1 : PP.out zeroP (σ2, (⟨ar, els.map TaskEl.data⟩ : ProgD)) = (⟨ar, els.map TaskEl.data⟩, 0, 0) := by unfold PP.out; rw [if_pos he]
  refine ⟨_, _, n, _, ba, els, bt, bx, kx, hpr, by rw [h1]; rfl, ?_, hB⟩
  rw [h1]
  have hsub : ∀ y ∈ ba ++ (bt ++ bx), y ∈ (w1.heap.size, 26, #[.slice Aa ar.length ca, .slice At els.length ct]) :: (bt ++ (bx ++ ba)) := by
    intro y hy
    simp only [List.mem_append, List.mem_cons] at hy ⊢
    rcases hy with h | h | h
    · exact .inr (.inr (.inr h))
    · exact .inr (.inl h)
    · exact .inr (.inr (.inl h))
  refine ⟨hra.mono hws, hrt.mono hws, rfl, fun x hx => (hok x hx).mono hws, fun y hy => ?_, fun y hy => ?_, by show ar.length ≤ 65536; omega, by omega⟩
  · obtain ⟨k1, k2⟩ := I.own y (hsub y hy)
    exact ⟨(k1.far (p := ⟨w.heap.size, 0, none⟩) (by show y.1 ≠ w.heap.size; omega) v0).far (p := ⟨w.heap.size, 1, none⟩) (by show y.1 ≠ w.heap.size; omega) v1, by omega⟩
  · have k1 := (I.ks y hy).weak (Z' := (w1.heap.size ≤ ·)) (fun g hg _ => hg.1.resolve_left (fun h => h))
    exact (k1.keep (((Keep.refl _ _).set (p := ⟨w.heap.size, 0, none⟩) (by intro h; have : w1.heap.size ≤ w.heap.size := h; omega) v0).set (p := ⟨w.heap.size, 1, none⟩) (by intro h; have : w1.heap.size ≤ w.heap.size := h; omega) v1)).weak (fun g hg _ => by have : w1.heap.size ≤ g := hg; show w.heap.size ≤ g; omega)
section
set_option maxHeartbeats 4000000
set_option maxRecDepth 100000
theorem refprogram_any (s : ByteArray) (w : World) (hs : s.size ≤ 65536) : Calls Tryz.prog 6 #[.string s] w (ProgEnd s w) := by
  have hfd := field_tok
  obtain ⟨i2, hi, hz0, hz1, hz2⟩ := info_parts infoTask
  have H0 := Lib.hid hi
  have H1 := Lib.hid hz0
  have H2 := Lib.hid hz1
  have H3 := Lib.hid hz2
  clear hi hz0 hz1 hz2
  obtain ⟨i1, ki, kz0, kz1, kz2⟩ := info_parts infoArr
  have K0 := Lib.hid ki
  have K1 := Lib.hid kz0
  have K2 := Lib.hid kz1
  have K3 := Lib.hid kz2
  have hb0 : Below w.heap.size w (w.alloc (.cells #[.slice none 0 0, .slice none 0 0] 26)) := (Below.refl _ _).alloc (Nat.le_refl _) _
  have HST := Lib.hid (ropen_any s (w.alloc (.cells #[.slice none 0 0, .slice none 0 0] 26)) hs)
  have HR0 := Lib.hid (Blk.new w 26 #[.slice none 0 0, .slice none 0 0])
  have HB0 := Lib.hid hb0
  clear hb0 ki kz0 kz1 kz2
  go_enter Tryz.func6, Tryz.ntmps6
  go_wp2_with fail
  refine HST.out.mono ?_
  rintro e w1 ⟨b, Y, rfl, hbb, hp, hb1⟩
  have hbb' : w.heap.size + 1 ≤ b := by have := hbb; simp at this; exact this
  have hR1 : Blk w1 w.heap.size 26 #[.slice none 0 0, .slice none 0 0] := (hb1.block _ (by simp)).trans HR0.out
  have hB1 : Below w.heap.size w w1 := HB0.out.trans (hb1.mono (by simp))
  have HI1 := Lib.hid ((RInv.start (Z := NoZ) hp (fun h => h)).alloc #[.slice none 0 0, .slice none 0 0] 26 (n := w1.heap.size) rfl)
  have HR1 := Lib.hid hR1
  have HB1 := Lib.hid hB1
  have hlen := hp.len
  generalize hEE : envOf s = E at *
  generalize hSS : sigOf s = σ at *
  have HEE := Lib.hid hEE
  have HSS := Lib.hid hSS
  clear hEE hSS
  have hst : RSharedRel w1 b Y E σ w1.heap.size _ := ⟨σ, [], _, [], RowV.nil _ _ _, HI1.out, by simp, fun n r hr => ⟨n, hr⟩⟩
  have HST2 := Lib.hid hst
  clear hp hb1 hbb hR1 hB1 HST HB0 HR0 hst HI1
  go_wp2_with fail
  generalize w1.alloc (.cells #[.slice none 0 0, .slice none 0 0] 26) = w2 at *
  go_loopw [] (fun wr => RSharedRel w1 b Y E σ w1.heap.size wr) (fun wr => rleft b wr)
  case atStart => exact HST2.out
  case round =>
    obtain ⟨σ', ar, va, ba, hra, I, hla, hgo⟩ := hrel
    obtain ⟨Aa, ca, rfl⟩ := hra.form
    have HRA := Lib.hid hra
    have HGO := Lib.hid hgo
    have hsee := fun (bl : List OwnB) (ks : List (Option Addr × List Tree)) (W : World) (I : RInv w1 NoZ b Y E σ' bl ks W) => rsee_inv I
    unfold seenV at hsee
    have e0 := seen_text E σ' (s := PP.kwShared) (by decide)
    have HW := Lib.hid I
    generalize (seen E σ').2.1 = tx at *
    generalize ((seen E σ').1 : Int) = kd at *
    generalize ((seen E σ').2.2 : Int) = ps at *
    have HSEE := Lib.hid hsee
    clear hra hgo hsee I HST2
    cases sv : PP.sees E σ' PP.kwShared with
    | true =>
      have hmo := more_of_sees sv
      have SV := Lib.hid sv
      have HMO := Lib.hid hmo
      rw [sv] at e0
      unfold PP.kwShared at e0
      clear sv hmo
      go_wp2_with fail
      refine (HSEE.out _ _ _ HW.out).mono ?_
      rintro e w10 ⟨rfl, I10⟩
      have t0 : w10.cell? ⟨w1.heap.size, 0, none⟩ = some (.slice Aa ar.length ca) := I10.b0.cell 0
      have HI10 := Lib.hid I10
      clear I10
      by_cases hl : ar.length = 4
      · have x1 : ((ar.length : Int) == 4) = true := by simp [hl]
        have HLQ := Lib.hid hl
        clear hl
        go_wp2_with fail
        refine (rat_any _ HI10.out.ps).mono ?_
        rintro e w10 ⟨po2, rfl, hp2, rfl⟩
        have hse := PP.more_err E HMO.out
        obtain rfl := hp2 hse.1
        obtain ⟨σ3, ar3, hsf, he3, ho3⟩ := PP.shared_full E (acc := ar) SV.out HLQ.out
        obtain ⟨n', hn'⟩ := HGO.out 2 (σ3, ar3) (hsf 0)
        have hb3 : σ3.err ≠ 0 := by rw [he3]; decide
        have hpr := PP.programP_mk E hn' (PP.listP_stop E PP.kwTask 8 (PP.taskP E) hb3 0 [])
        rw [show PP.more E σ3 = false by simp [PP.more, hb3]] at hpr
        have hR5 := HR1.out.fr HI10.out.fr (by omega)
        have r0 : w10.cell? ⟨w.heap.size, 0, none⟩ = some (.slice none 0 0) := hR5.cell 0
        have r1 : w10.cell? ⟨w.heap.size, 1, none⟩ = some (.slice none 0 0) := hR5.cell 1
        have q0 := hR5.frozen 0
        have q1 := hR5.frozen 1
        have HR5 := Lib.hid (fun v0 v1 => (show Blk ((w10.setCell ⟨w.heap.size, 0, none⟩ v0).setCell ⟨w.heap.size, 1, none⟩ v1) w.heap.size 26 #[v0, v1] from (hR5.set_ 0 v0).set_ 1 v1))
        have HPR := Lib.hid hpr
        have HE3 := Lib.hid he3
        have HO3 := Lib.hid ho3
        clear hp2 hsf hn' hpr hR5 he3 ho3 hb3
        go_wp2_with fail
        refine bodyPost_ret (prog3_result rfl rfl (HR5.out _ _)) rfl ?_
        have hB5 := ((below_fr HB1.out HI10.out.fr (by omega) HB1.out.size).setCell (p := ⟨w.heap.size, 0, none⟩) (Nat.le_refl _) (.slice none 0 0)).setCell (p := ⟨w.heap.size, 1, none⟩) (Nat.le_refl _) (.slice none 0 0)
        exact progend_zero (o := PP.here E σ') (e := 5) (by rw [HEE.out, HSS.out]; exact HPR.out) HE3.out HO3.out (by decide) hB5
      · have x1 : ((ar.length : Int) == 4) = false := by simp; omega
        have HLQ := Lib.hid hl
        clear hl
        go_wp2_with fail
        refine (rskip_inv HMO.out HI10.out).mono ?_
        rintro e w12 ⟨rfl, I12⟩
        have t4 : w12.cell? ⟨w1.heap.size, 0, none⟩ = some (.slice Aa ar.length ca) := I12.b0.cell 0
        have hTb := I12.ne (x := (w1.heap.size, 26, #[.slice Aa ar.length ca, .slice none 0 0])) (by simp)
        have hw0 := I12.fr.size
        have HCALL := Lib.hid (rarray_inv I12)
        have HCALLd := Lib.hid (rarray_inv I12.drew)
        have HBV := Lib.hid (show ∀ x ∈ ba, x ∈ ((w1.heap.size, 26, #[.slice Aa ar.length ca, .slice none 0 0]) :: ba) from fun x hx => by simp [hx])
        generalize hnq : PP.arrQ E (PP.adv σ') = nq at *
        have HNQ := Lib.hid hnq
        clear I12 HI10 t0 hnq
        go_wp2_with fail
        go_region_law (first | (refine step_append_lies _ (by rfl) _ _ 23 (by rfl) w1.heap.size 43 i1 (.agg #[.string ⟨#[]⟩, .int .i64 0]) 2 24 Tryz.underlying23 K0.out K1.out K2.out K3.out (by rfl) (by decide) _ _ _ (by rfl) (HRA.out.own (fun x hx => HI5a.out.blk (HBV.out x hx))) ⟨w5.heap.size, 0, none⟩ 1 1 [.string ⟨nq.2.name.toArray⟩, .int .i64 nq.2.len] (by rfl) (by rfl) (World.news_of_block (heap_alloc_new w5 _)) (by intro u hu; simp at hu; rcases hu with rfl | rfl <;> rfl) (by decide) (by unfold maxLen; omega) (by omega) (by simp; omega) (w5.heap.size + 1) (by simp) ?_; intro g cap w7 hown7 hg7 hat7 hlt7; obtain ⟨bs', hr', I7⟩ := RInv.append (rest := [(w1.heap.size, 26, #[.slice Aa ar.length ca, .slice none 0 0])]) (HI5a.out.perm (permP _ _)) HRA.out hown7 hg7 hat7 (by simp) rfl; have c7 : w7.cell? ⟨w1.heap.size, 0, none⟩ = some (.slice Aa ar.length ca) := (I7.blk (x := (w1.heap.size, 26, #[.slice Aa ar.length ca, .slice none 0 0])) (by simp)).cell 0; have f7 := (I7.blk (x := (w1.heap.size, 26, #[.slice Aa ar.length ca, .slice none 0 0])) (by simp)).frozen 0) | (go_simp; go_at_call 21; (first | (with_reducible refine HCALL.out.mono ?_) | (with_reducible refine HCALLd.out.mono ?_)); rintro e w5 ⟨rfl, I5⟩; have hs5 := I5.fr.size; have c5 : w5.cell? ⟨w1.heap.size, 0, none⟩ = some (.slice Aa ar.length ca) := I5.b0.cell 0; have hT5 := I5.b0.lt; have HI5a := Lib.hid (I5.more (.cells #[.string ⟨nq.2.name.toArray⟩, .int .i64 nq.2.len] 43))))
        all_goals
         have hrow : RowV w1.heap.size 43 2 (.slice (some ⟨g, 0, none⟩) (ar.length + 1) cap) (ar ++ [nq.2]).length (arrCells (ar ++ [nq.2])) bs' := by have := hr'; simpa [arrCells] using this
         have HQ := Lib.hid (I7.set (l1 := bs') 0 (.slice (some ⟨g, 0, none⟩) (ar.length + 1) cap))
         clear I7 hr' hown7 hg7 hat7 I5 HI5a HCALL HCALLd
         have hvp : PP.arrayP E σ' = nq := HNQ.out
         have hnx : σ'.next < nq.1.next := by have := le_arrayP (E := E) (σ := σ'); rw [hvp] at this; exact this
         have hse := PP.more_err E HMO.out
         have HVP := Lib.hid hvp
         have HNX := Lib.hid hnx
         clear hvp hnx
         go_wp2_with fail
         go_roundw
         case rel =>
           refine ⟨_, ar ++ [nq.2], _, bs', hrow, HQ.out.perm (permP _ _).symm, by have := HLQ.out; simp; omega, fun n r hr => HGO.out (n + 1) r ?_⟩
           rw [PP.listP, SV.out]
           simp only [if_true]
           rw [if_neg (by have := HLQ.out; omega)]
           simp only [Option.bind_some]
           rw [HVP.out]
           exact hr
         case measure => exact rleft_lt HW.out.ps HQ.out.ps hse.1 hse.2 (.inr HNX.out)
    | false =>
      obtain ⟨na, hna⟩ := HGO.out 1 (σ', ar) (PP.listP_none E _ _ _ sv 0 ar)
      have HNA := Lib.hid hna
      rw [sv] at e0
      unfold PP.kwShared at e0
      clear sv hna HGO
      go_wp2_with fail
      refine (HSEE.out _ _ _ HW.out).mono ?_
      rintro e w10 ⟨rfl, I10⟩
      have hst2 : RTaskRel w1 b Y E σ σ' w1.heap.size (.slice Aa ar.length ca) ba w10 := by
        by_cases he : σ'.err = 0
        · exact ⟨σ', .inl ⟨he, [], _, [], [], [], RowV.nil _ _ _, fun x hx => by simp at hx, by simpa using I10, by simp, fun n r hr => ⟨n, hr⟩⟩⟩
        · refine ⟨σ', .inr ⟨he, I10.nob, ?_⟩⟩
          have hp := PP.programP_mk E HNA.out (PP.listP_stop E PP.kwTask 8 (PP.taskP E) he 0 [])
          rw [show PP.more E σ' = false by simp [PP.more, he]] at hp
          exact ⟨_, _, hp, rfl, rfl⟩
      have HST3 := Lib.hid hst2
      clear I10 hst2 HSEE HW
      go_wp2_with fail
      go_loopw [] (fun wr => RTaskRel w1 b Y E σ σ' w1.heap.size (.slice Aa ar.length ca) ba wr) (fun wr => rleft b wr)
      case atStart => exact HST3.out
      case round =>
        clear HST3
        obtain ⟨σ2, hA | hB⟩ := hrel
        · obtain ⟨he2, els, vt, bt, bx, kx, hrt, hok, I, hle, hgo2⟩ := hA
          obtain ⟨At, ct, rfl⟩ := hrt.form
          obtain ⟨kk, cc, pe, AA, hst⟩ := I.ps.st
          obtain ⟨x0, _, x2, x3⟩ := hst.cells
          have hkk := hst.here he2
          subst hkk
          have e1 : ((σ2.err : Int) == 0) = true := by simp [he2]
          have HRT := Lib.hid hrt
          have HOK := Lib.hid hok
          have HGO2 := Lib.hid hgo2
          have HI := Lib.hid I
          have HE2 := Lib.hid he2
          clear hrt hok hgo2 hst
          by_cases hlt : σ2.next < E.ts.length
          · have e2 : decide ((0 : Int) < ((E.ts.length - σ2.next : Nat) : Int)) = true := by simp; omega
            have p2 : (0 : Int) < ((E.ts.length - σ2.next : Nat) : Int) := by omega
            have HMO := Lib.hid (show PP.more E σ2 = true by simp [PP.more, he2, hlt])
            have hsee := fun (bl : List OwnB) (ks : List (Option Addr × List Tree)) (W : World) (I : RInv w1 NoZ b Y E σ2 bl ks W) => rsee_inv I
            unfold seenV at hsee
            have e0 := seen_text E σ2 (s := PP.kwTask) (by decide)
            generalize (seen E σ2).2.1 = tx2 at *
            generalize ((seen E σ2).1 : Int) = kd2 at *
            generalize ((seen E σ2).2.2 : Int) = ps2 at *
            have HSEE2 := Lib.hid hsee
            clear hsee I he2
            cases sv : PP.sees E σ2 PP.kwTask with
            | true =>
              have SV2 := Lib.hid sv
              rw [sv] at e0
              unfold PP.kwTask at e0
              by_cases hl : els.length = 8
              · have x1 : ((els.length : Int) == 8) = true := by simp [hl]
                have HLQ := Lib.hid hl
                clear hl
                go_wp2_with fail
                refine (HSEE2.out _ _ _ HI.out).mono ?_
                rintro e w10 ⟨rfl, I10⟩
                have t1 : w10.cell? ⟨w1.heap.size, 1, none⟩ = some (.slice At els.length ct) := I10.b0.cell 1
                have HI10 := Lib.hid I10
                clear I10
                go_wp2_with fail
                refine (rat_any _ HI10.out.ps).mono ?_
                rintro e w10 ⟨po2, rfl, hp2, rfl⟩
                clear x0 x2 x3
                obtain rfl := hp2 HE2.out
                obtain ⟨σ6, he3, ho3, hsf⟩ := PP.tasks_full E (acc := els.map TaskEl.data) SV2.out (by simp [HLQ.out])
                obtain ⟨ts6, hts6⟩ := hsf 0
                obtain ⟨n', hn'⟩ := HGO2.out 2 (σ6, ts6) hts6
                have hb3 : σ6.err ≠ 0 := by rw [he3]; decide
                have hpr := PP.programP_mk E HNA.out hn'
                rw [show PP.more E σ6 = false by simp [PP.more, hb3]] at hpr
                have hR5 := HR1.out.fr HI10.out.fr (by omega)
                have r0 : w10.cell? ⟨w.heap.size, 0, none⟩ = some (.slice none 0 0) := hR5.cell 0
                have r1 : w10.cell? ⟨w.heap.size, 1, none⟩ = some (.slice none 0 0) := hR5.cell 1
                have q0 := hR5.frozen 0
                have q1 := hR5.frozen 1
                have HR5 := Lib.hid (fun v0 v1 => (show Blk ((w10.setCell ⟨w.heap.size, 0, none⟩ v0).setCell ⟨w.heap.size, 1, none⟩ v1) w.heap.size 26 #[v0, v1] from (hR5.set_ 0 v0).set_ 1 v1))
                have HPR := Lib.hid hpr
                have HE3 := Lib.hid he3
                have HO3 := Lib.hid ho3
                clear hp2 hsf hts6 hn' hpr hR5 he3 ho3 hb3
                go_wp2_with fail
                refine bodyPost_ret (prog3_result rfl rfl (HR5.out _ _)) rfl ?_
                have hB5 := ((below_fr HB1.out HI10.out.fr (by omega) HB1.out.size).setCell (p := ⟨w.heap.size, 0, none⟩) (Nat.le_refl _) (.slice none 0 0)).setCell (p := ⟨w.heap.size, 1, none⟩) (Nat.le_refl _) (.slice none 0 0)
                exact progend_zero (o := PP.here E σ2) (e := 5) (by rw [HEE.out, HSS.out]; exact HPR.out) HE3.out HO3.out (by decide) hB5
              · have x1 : ((els.length : Int) == 8) = false := by simp; omega
                have hsvx := sv
                clear sv
                have HL8 := Lib.hid (show (els.map TaskEl.data).length < 8 ∨ PP.sees E σ2 PP.kwTask = false from .inl (by simp; omega))
                clear hsvx
                go_wp2_with fail
                refine (HSEE2.out _ _ _ HI.out).mono ?_
                rintro e w10 ⟨rfl, I10⟩
                have t1 : w10.cell? ⟨w1.heap.size, 1, none⟩ = some (.slice At els.length ct) := I10.b0.cell 1
                have HI10 := Lib.hid I10
                clear I10
                go_wp2_with fail
                refine (rwant_inv ⟨#[116, 97, 115, 107]⟩ (by simp) HI10.out).mono ?_
                rintro e w12 ⟨rfl, I12a⟩
                have I12 : RInv w1 NoZ b Y E (PP.require E σ2 PP.kwTask) _ _ w12 := I12a
                have t4 : w12.cell? ⟨w1.heap.size, 1, none⟩ = some (.slice At els.length ct) := I12.b0.cell 1
                have hTb := I12.ne (x := (w1.heap.size, 26, #[.slice Aa ar.length ca, .slice At els.length ct])) (by simp)
                have hw0 := I12.fr.size
                have HCALL := Lib.hid (rtask_inv I12)
                have HCALLd := Lib.hid (rtask_inv I12.drew)
                clear I12 I12a HI10 t1 x0 x2 x3
                go_wp2_with fail
                go_region_law (first | (refine step_append_lies _ (by rfl) _ _ 24 (by rfl) w1.heap.size 49 i2 (.agg #[.string ⟨#[]⟩, .int .i64 0, .slice none 0 0, .slice none 0 0, .int .u8 0, .int .i64 0, .string ⟨#[]⟩, .slice none 0 0]) 8 128 Tryz.underlying24 H0.out H1.out H2.out H3.out (by rfl) (by decide) _ _ _ (by rfl) (HRT.out.own (fun x hx => HI5a.out.blk (by simp [hx]))) ⟨w5.heap.size, 0, none⟩ 1 1 [.string ⟨nm.toArray⟩, .int .i64 per, .slice Av vs.length cv, .slice Aw tr.length cw, .int .u8 (k : Int), .int .i64 num, .string ⟨bn.toArray⟩, .slice A kids.length c] (by rfl) (by rfl) (World.news_of_block (heap_alloc_new w5 _)) (by intro u hu; simp at hu; rcases hu with rfl | rfl | rfl | rfl | rfl | rfl | rfl | rfl <;> rfl) (by decide) (by unfold maxLen; omega) (by omega) (by simp; omega) (w5.heap.size + 1) (by simp) ?_; intro g cap w7 hown7 hg7 hat7 hlt7; obtain ⟨bs', hr', I7⟩ := RInv.append (rest := (w1.heap.size, 26, #[.slice Aa ar.length ca, .slice At els.length ct]) :: (bv ++ (bw ++ (bx ++ ba)))) (HI5a.out.perm (permT _ _ _ _ _)) HRT.out hown7 hg7 hat7 (by simp) rfl; have c7 : w7.cell? ⟨w1.heap.size, 1, none⟩ = some (.slice At els.length ct) := (I7.blk (x := (w1.heap.size, 26, #[.slice Aa ar.length ca, .slice At els.length ct])) (by simp)).cell 1; have f7 := (I7.blk (x := (w1.heap.size, 26, #[.slice Aa ar.length ca, .slice At els.length ct])) (by simp)).frozen 1) | (go_simp; go_at_call 23; (first | (with_reducible refine HCALL.out.mono ?_) | (with_reducible refine HCALLd.out.mono ?_)); rintro e w5 ⟨σ5, nm, per, vs, tr, k, num, bn, kids, A, c, vv, va, bv, bw, rfl, hrv, hrw, hlv, hlw, I5, ⟨mt, td, htd, htde⟩, hnx⟩; have HRV := Lib.hid hrv; have HRW := Lib.hid hrw; have HTD := Lib.hid htd; have HTE := Lib.hid htde; obtain ⟨Av, cv, rfl⟩ := hrv.form; obtain ⟨Aw, cw, rfl⟩ := hrw.form; clear hrv hrw htd htde; have hs5 := I5.fr.size; have c5 : w5.cell? ⟨w1.heap.size, 1, none⟩ = some (.slice At els.length ct) := (I5.blk (x := (w1.heap.size, 26, #[.slice Aa ar.length ca, .slice At els.length ct])) (by simp)).cell 1; have hT5 := (I5.blk (x := (w1.heap.size, 26, #[.slice Aa ar.length ca, .slice At els.length ct])) (by simp)).lt; have HI5a := Lib.hid (I5.more (.cells #[.string ⟨nm.toArray⟩, .int .i64 per, .slice Av vs.length cv, .slice Aw tr.length cw, .int .u8 (k : Int), .int .i64 num, .string ⟨bn.toArray⟩, .slice A kids.length c] 49))))
                all_goals
                 have HROW := Lib.hid hr'
                 have HQ := Lib.hid (I7.set (l1 := bs') 1 (.slice (some ⟨g, 0, none⟩) (els.length + 1) cap))
                 clear I7 hr' hown7 hg7 hat7 I5 HI5a HCALL HCALLd
                 have hstep := PP.task_step E HNA.out HGO2.out HMO.out HL8.out HTD.out
                 have hadv := PP.task_next E HTD.out hnx
                 have HSTEP := Lib.hid hstep
                 have HADV := Lib.hid hadv
                 clear hstep hadv hnx
                 go_wp2_with fail
                 go_roundw
                 case rel =>
                   by_cases he5 : σ5.err = 0
                   · obtain ⟨h8, hgo5⟩ := HSTEP.out.1 he5
                     have htd := HTE.out he5
                     obtain ⟨rfl, rfl, rfl⟩ := PP.taskQ_node E HTD.out htd
                     refine ⟨σ5, .inl ⟨he5, els ++ [⟨nm, per, vs, tr, kids, A, c, _, _, bv, bw⟩], _, bs', bv ++ (bw ++ bx), (A, kids) :: kx, by have := HROW.out; simpa [tasksCells, TaskEl.cells] using this, fun x hx => ?_, by have := HQ.out.perm (permU _ _ _ _ _ _); simpa using this, by have := h8; simp at this; simp; omega, ?_⟩⟩
                     · rcases List.mem_append.1 hx with hx | hx
                       · have hk := HOK.out x hx
                         exact ⟨hk.rv, hk.ra, hk.lv, hk.la, fun y hy => by simp [hk.mv y hy], fun y hy => by simp [hk.ma y hy], by simp [hk.mx]⟩
                       · simp only [List.mem_cons, List.not_mem_nil, or_false] at hx
                         subst hx
                         exact ⟨HRV.out, HRW.out, hlv, hlw, fun y hy => by simp [hy], fun y hy => by simp [hy], by simp⟩
                     · intro n r hr
                       rw [List.map_append] at hr
                       rw [htd] at hgo5
                       exact hgo5 n r hr
                   · obtain ⟨n, q, hq, hq1, hq2⟩ := HSTEP.out.2 he5
                     exact ⟨σ5, .inr ⟨he5, HQ.out.nob, n, q, hq, hq1, hq2⟩⟩
                 case measure => exact rleft_lt HI.out.ps HQ.out.ps HE2.out hlt HADV.out
            | false =>
              have hsvx := sv
              rw [sv] at e0
              unfold PP.kwTask at e0
              clear sv
              have HL8 := Lib.hid (show (els.map TaskEl.data).length < 8 ∨ PP.sees E σ2 PP.kwTask = false from .inr hsvx)
              clear hsvx
              go_wp2_with fail
              refine (HSEE2.out _ _ _ HI.out).mono ?_
              rintro e w10 ⟨rfl, I10⟩
              have t1 : w10.cell? ⟨w1.heap.size, 1, none⟩ = some (.slice At els.length ct) := I10.b0.cell 1
              have HI10 := Lib.hid I10
              clear I10
              go_wp2_with fail
              refine (rwant_inv ⟨#[116, 97, 115, 107]⟩ (by simp) HI10.out).mono ?_
              rintro e w12 ⟨rfl, I12a⟩
              have I12 : RInv w1 NoZ b Y E (PP.require E σ2 PP.kwTask) _ _ w12 := I12a
              have t4 : w12.cell? ⟨w1.heap.size, 1, none⟩ = some (.slice At els.length ct) := I12.b0.cell 1
              have hTb := I12.ne (x := (w1.heap.size, 26, #[.slice Aa ar.length ca, .slice At els.length ct])) (by simp)
              have hw0 := I12.fr.size
              have HCALL := Lib.hid (rtask_inv I12)
              have HCALLd := Lib.hid (rtask_inv I12.drew)
              clear I12 I12a HI10 t1 x0 x2 x3
              go_wp2_with fail
              go_region_law (first | (refine step_append_lies _ (by rfl) _ _ 24 (by rfl) w1.heap.size 49 i2 (.agg #[.string ⟨#[]⟩, .int .i64 0, .slice none 0 0, .slice none 0 0, .int .u8 0, .int .i64 0, .string ⟨#[]⟩, .slice none 0 0]) 8 128 Tryz.underlying24 H0.out H1.out H2.out H3.out (by rfl) (by decide) _ _ _ (by rfl) (HRT.out.own (fun x hx => HI5a.out.blk (by simp [hx]))) ⟨w5.heap.size, 0, none⟩ 1 1 [.string ⟨nm.toArray⟩, .int .i64 per, .slice Av vs.length cv, .slice Aw tr.length cw, .int .u8 (k : Int), .int .i64 num, .string ⟨bn.toArray⟩, .slice A kids.length c] (by rfl) (by rfl) (World.news_of_block (heap_alloc_new w5 _)) (by intro u hu; simp at hu; rcases hu with rfl | rfl | rfl | rfl | rfl | rfl | rfl | rfl <;> rfl) (by decide) (by unfold maxLen; omega) (by omega) (by simp; omega) (w5.heap.size + 1) (by simp) ?_; intro g cap w7 hown7 hg7 hat7 hlt7; obtain ⟨bs', hr', I7⟩ := RInv.append (rest := (w1.heap.size, 26, #[.slice Aa ar.length ca, .slice At els.length ct]) :: (bv ++ (bw ++ (bx ++ ba)))) (HI5a.out.perm (permT _ _ _ _ _)) HRT.out hown7 hg7 hat7 (by simp) rfl; have c7 : w7.cell? ⟨w1.heap.size, 1, none⟩ = some (.slice At els.length ct) := (I7.blk (x := (w1.heap.size, 26, #[.slice Aa ar.length ca, .slice At els.length ct])) (by simp)).cell 1; have f7 := (I7.blk (x := (w1.heap.size, 26, #[.slice Aa ar.length ca, .slice At els.length ct])) (by simp)).frozen 1) | (go_simp; go_at_call 23; (first | (with_reducible refine HCALL.out.mono ?_) | (with_reducible refine HCALLd.out.mono ?_)); rintro e w5 ⟨σ5, nm, per, vs, tr, k, num, bn, kids, A, c, vv, va, bv, bw, rfl, hrv, hrw, hlv, hlw, I5, ⟨mt, td, htd, htde⟩, hnx⟩; have HRV := Lib.hid hrv; have HRW := Lib.hid hrw; have HTD := Lib.hid htd; have HTE := Lib.hid htde; obtain ⟨Av, cv, rfl⟩ := hrv.form; obtain ⟨Aw, cw, rfl⟩ := hrw.form; clear hrv hrw htd htde; have hs5 := I5.fr.size; have c5 : w5.cell? ⟨w1.heap.size, 1, none⟩ = some (.slice At els.length ct) := (I5.blk (x := (w1.heap.size, 26, #[.slice Aa ar.length ca, .slice At els.length ct])) (by simp)).cell 1; have hT5 := (I5.blk (x := (w1.heap.size, 26, #[.slice Aa ar.length ca, .slice At els.length ct])) (by simp)).lt; have HI5a := Lib.hid (I5.more (.cells #[.string ⟨nm.toArray⟩, .int .i64 per, .slice Av vs.length cv, .slice Aw tr.length cw, .int .u8 (k : Int), .int .i64 num, .string ⟨bn.toArray⟩, .slice A kids.length c] 49))))
              all_goals
               have HROW := Lib.hid hr'
               have HQ := Lib.hid (I7.set (l1 := bs') 1 (.slice (some ⟨g, 0, none⟩) (els.length + 1) cap))
               clear I7 hr' hown7 hg7 hat7 I5 HI5a HCALL HCALLd
               have hstep := PP.task_step E HNA.out HGO2.out HMO.out HL8.out HTD.out
               have hadv := PP.task_next E HTD.out hnx
               have HSTEP := Lib.hid hstep
               have HADV := Lib.hid hadv
               clear hstep hadv hnx
               go_wp2_with fail
               go_roundw
               case rel =>
                 by_cases he5 : σ5.err = 0
                 · obtain ⟨h8, hgo5⟩ := HSTEP.out.1 he5
                   have htd := HTE.out he5
                   obtain ⟨rfl, rfl, rfl⟩ := PP.taskQ_node E HTD.out htd
                   refine ⟨σ5, .inl ⟨he5, els ++ [⟨nm, per, vs, tr, kids, A, c, _, _, bv, bw⟩], _, bs', bv ++ (bw ++ bx), (A, kids) :: kx, by have := HROW.out; simpa [tasksCells, TaskEl.cells] using this, fun x hx => ?_, by have := HQ.out.perm (permU _ _ _ _ _ _); simpa using this, by have := h8; simp at this; simp; omega, ?_⟩⟩
                   · rcases List.mem_append.1 hx with hx | hx
                     · have hk := HOK.out x hx
                       exact ⟨hk.rv, hk.ra, hk.lv, hk.la, fun y hy => by simp [hk.mv y hy], fun y hy => by simp [hk.ma y hy], by simp [hk.mx]⟩
                     · simp only [List.mem_cons, List.not_mem_nil, or_false] at hx
                       subst hx
                       exact ⟨HRV.out, HRW.out, hlv, hlw, fun y hy => by simp [hy], fun y hy => by simp [hy], by simp⟩
                   · intro n r hr
                     rw [List.map_append] at hr
                     rw [htd] at hgo5
                     exact hgo5 n r hr
                 · obtain ⟨n, q, hq, hq1, hq2⟩ := HSTEP.out.2 he5
                   exact ⟨σ5, .inr ⟨he5, HQ.out.nob, n, q, hq, hq1, hq2⟩⟩
               case measure => exact rleft_lt HI.out.ps HQ.out.ps HE2.out hlt HADV.out
          · have e2 : decide ((0 : Int) < ((E.ts.length - σ2.next : Nat) : Int)) = false := by simp; omega
            have p2 : ¬ (0 : Int) < ((E.ts.length - σ2.next : Nat) : Int) := by omega
            have hmo : PP.more E σ2 = false := by simp [PP.more, hlt]
            obtain ⟨nf, hpr⟩ := PP.tasks_at E HNA.out HGO2.out (by unfold PP.sees; rw [hmo]; rfl)
            rw [hmo] at hpr
            have e4 : ((σ2.err : Int) != 0) = false := by simp [he2]
            have t0 : wr.cell? ⟨w1.heap.size, 0, none⟩ = some (.slice Aa ar.length ca) := I.b0.cell 0
            have t1 : wr.cell? ⟨w1.heap.size, 1, none⟩ = some (.slice At els.length ct) := I.b0.cell 1
            have hR5 := HR1.out.fr I.fr (by omega)
            have r0 : wr.cell? ⟨w.heap.size, 0, none⟩ = some (.slice none 0 0) := hR5.cell 0
            have r1 : wr.cell? ⟨w.heap.size, 1, none⟩ = some (.slice none 0 0) := hR5.cell 1
            have q0 := hR5.frozen 0
            have q1 := hR5.frozen 1
            have HR5 := Lib.hid (fun v0 v1 => (show Blk ((wr.setCell ⟨w.heap.size, 0, none⟩ v0).setCell ⟨w.heap.size, 1, none⟩ v1) w.heap.size 26 #[v0, v1] from (hR5.set_ 0 v0).set_ 1 v1))
            have HPR := Lib.hid hpr
            have hbR : b ≠ w.heap.size := by omega
            have hRb : w.heap.size ≠ b := by omega
            have hPR : w1.heap.size ≠ w.heap.size := by have := HR1.out.lt; omega
            have hRP : w.heap.size ≠ w1.heap.size := fun h => hPR h.symm
            clear hpr hR5 hmo I
            go_wp2_with fail
            refine bodyPost_ret (prog3_result rfl rfl (HR5.out _ _)) rfl ?_
            have hB5 := ((below_fr HB1.out HI.out.fr (by omega) HB1.out.size).setCell (p := ⟨w.heap.size, 0, none⟩) (Nat.le_refl _) (.slice Aa ar.length ca)).setCell (p := ⟨w.heap.size, 1, none⟩) (Nat.le_refl _) (.slice At els.length ct)
            exact progend_full (by rw [HEE.out, HSS.out]; exact HPR.out) HE2.out HRA.out HRT.out HOK.out HI.out HB1.out.size HR1.out.lt hla hle hB5
        · obtain ⟨he2, I, nq, q, hq, hq1, hq2⟩ := hB
          obtain ⟨kk, cc, pe, AA, hst⟩ := I.ps.st
          obtain ⟨x0, _, x2, x3⟩ := hst.cells
          have hp2 := hst.pos he2
          subst hp2
          have e1 : ((σ2.err : Int) == 0) = false := beq_eq_false_iff_ne.2 (by omega)
          have e4 : ((σ2.err : Int) != 0) = true := by simpa using he2
          have hR5 := HR1.out.fr I.fr (by omega)
          have r0 : wr.cell? ⟨w.heap.size, 0, none⟩ = some (.slice none 0 0) := hR5.cell 0
          have r1 : wr.cell? ⟨w.heap.size, 1, none⟩ = some (.slice none 0 0) := hR5.cell 1
          have q0 := hR5.frozen 0
          have q1 := hR5.frozen 1
          have hbR : b ≠ w.heap.size := by omega
          have hRb : w.heap.size ≠ b := by omega
          have HR5 := Lib.hid (fun v0 v1 => (show Blk ((wr.setCell ⟨w.heap.size, 0, none⟩ v0).setCell ⟨w.heap.size, 1, none⟩ v1) w.heap.size 26 #[v0, v1] from (hR5.set_ 0 v0).set_ 1 v1))
          have HQQ := Lib.hid hq
          have HI := Lib.hid I
          have HE2 := Lib.hid he2
          have HQ1 := Lib.hid hq1
          have HQ2 := Lib.hid hq2
          clear hR5 hst I hq hq1 hq2 he2
          go_wp2_with fail
          go_region
          all_goals
            go_wp2_with fail
            refine bodyPost_ret (prog3_result rfl rfl (HR5.out _ _)) rfl ?_
            have hB5 := ((below_fr HB1.out HI.out.drew.fr (by omega) HB1.out.size).setCell (p := ⟨w.heap.size, 0, none⟩) (Nat.le_refl _) (.slice none 0 0)).setCell (p := ⟨w.heap.size, 1, none⟩) (Nat.le_refl _) (.slice none 0 0)
            exact progend_zero (by rw [HEE.out, HSS.out]; exact HQQ.out) HQ1.out HQ2.out HE2.out hB5
end
end Go.Proofs.YtglaecalbamnkaaGreatDoor
