/- The walk of asm.Format (written by wip/genasfmt.py). -/
import Derived.Test.YtgeagpplihecmaaDoorAsG
namespace Go.Proofs.YtgeagpplihecmaaDoor
open Go.RowKit
open AS (Ins)
theorem cf_w3 (v : Value) (W : World) : Sem.run Tryd.prog (callFunc 46 #[v]) W = .ok (Next.enter 46 #[v]) W := by kernel_rfl
theorem cf_wr (u v : Value) (W : World) : Sem.run Tryd.prog (callFunc 61 #[u, v]) W = .ok (Next.enter 61 #[u, v]) W := by kernel_rfl
theorem fmtL_take (l : List Ins) (k : Nat) (i : Ins) (h : l[k]? = some i) : AS.fmtL (l.take (k + 1)) = AS.fmtL (l.take k) ++ AS.line i := by
  obtain ⟨hk, rfl⟩ := List.getElem?_eq_some_iff.1 h
  unfold AS.fmtL
  rw [List.take_succ_eq_append_getElem hk, List.flatMap_append, List.flatMap_singleton]
theorem fmtL_le (l : List Ins) (k : Nat) (h : (l.take k).all AS.valid = true) (hl : k ≤ 4096) : (AS.fmtL (l.take k)).length ≤ 139264 := by
  have h1 := AS.fmt_len h
  have h2 := List.length_take_le k l
  omega
def partL (i : Ins) (j : Nat) : List UInt8 := ((AS.shape i.op).take j).flatMap fun k => 32 :: AS.word i k
theorem partL_succ (i : Ins) (j k : Nat) (h : (AS.shape i.op)[j]? = some k) : partL i (j + 1) = partL i j ++ 32 :: AS.word i k := by
  obtain ⟨hk, rfl⟩ := List.getElem?_eq_some_iff.1 h
  unfold partL
  rw [List.take_succ_eq_append_getElem hk, List.flatMap_append, List.flatMap_singleton]
theorem partL_all (i : Ins) (j : Nat) (h : j = (AS.shape i.op).length) : AS.name i.op ++ partL i j ++ [10] = AS.line i := by
  unfold partL AS.line
  rw [h, List.take_length]
theorem partL_le (i : Ins) (j : Nat) (h : AS.valid i = true) : (AS.name i.op ++ partL i j).length ≤ 34 := by
  have h1 := AS.line_len h
  have h2 : (AS.line i).length = (AS.name i.op ++ partL i j).length + (((AS.shape i.op).drop j).flatMap fun k => 32 :: AS.word i k).length + 1 := by
    unfold AS.line partL
    conv => lhs; rw [← List.take_append_drop j (AS.shape i.op)]
    simp only [List.flatMap_append, List.length_append, List.length_cons, List.length_nil]
    omega
  omega
def FRel (w : World) (l : List Ins) (n : Nat) (i : Value) (wr : World) : Prop := ∃ k : Nat, k ≤ n ∧ i = .int .i64 (k : Int) ∧ (l.take k).all AS.valid = true ∧ BInv w w.heap.size w.heap.size (AS.fmtL (l.take k)) [] wr
def ORel (w : World) (l : List Ins) (k n1 : Nat) (i : Ins) (A : Option Addr) (v : Value) (wr : World) : Prop := ∃ j : Nat, j ≤ (AS.shape i.op).length ∧ v = .int .i64 (j : Int) ∧ BInv w w.heap.size w.heap.size (AS.fmtL (l.take k) ++ (AS.name i.op ++ partL i j)) [(n1, 48, insV i)] wr ∧ OpsRow wr A (AS.shape i.op)
section
set_option maxHeartbeats 2000000
set_option maxRecDepth 100000
theorem format_any (l : List Ins) (A : Option Addr) (n c : Nat) (w : World) (hN : l.length = n) (hn : n ≤ 1000000) (hr : Row w A (insCells l)) (ho : ∀ i ∈ l, i.op ≤ 255) (hF : FmtIs w) (hP : PowIs w) :
    Calls Tryd.prog 13 #[.slice A n c] w fun e w' => e = .returned (.tuple #[.string ⟨(AS.fmt l).1.toArray⟩, .int .i64 ((AS.fmt l).2 : Int)]) ∧ Below w.heap.size w w' := by
  have HN := Lib.hid hN
  have HR := Lib.hid hr
  have HO := Lib.hid ho
  have HF := Lib.hid hF
  have HP := Lib.hid hP
  have hfmt : AS.fmt l = if 4096 < l.length then ([], 5) else if l.all AS.valid then (AS.fmtL l, 0) else ([], 3) := rfl
  have hnot : ∀ (x : Bool) (w : World), (Op.unary .not (.bool x)).run Tryd.prog w = .ok (.bool (!x)) w := fun _ _ => rfl
  clear hN hr ho hF hP
  generalize AS.fmt l = R at *
  by_cases hbig : 4096 < n
  · have e1 : decide ((4096 : Int) < (n : Int)) = true := by simp; omega
    have hR : R = ([], 5) := by rw [hfmt, if_pos (by rw [HN.out]; exact hbig)]
    rw [hR]
    clear hfmt hR
    go_enter Tryd.func13, Tryd.ntmps13
    go_wp2_with fail
    go_ret2
    exact ⟨rfl, Below.refl _ _⟩
  have e1 : decide ((4096 : Int) < (n : Int)) = false := by simp; omega
  have HFM := Lib.hid (show R = if l.all AS.valid then (AS.fmtL l, 0) else ([], 3) by rw [hfmt, if_neg (by rw [HN.out]; exact hbig)])
  clear hfmt
  have hb0 : Below w.heap.size w (w.alloc (.cells #[.pointer none, .slice none 0 0] 56)) := (Below.refl _ _).alloc (Nat.le_refl _) _
  have HST := Lib.hid (show BInv w w.heap.size w.heap.size [] [] (w.alloc (.cells #[.pointer none, .slice none 0 0] 56)) from ⟨Lib.IsBuilderF.of (Lib.fresh_isBuilder 56 5 w), Nat.le_refl _, hb0, fun x hx => by simp at hx⟩)
  clear hb0
  go_enter Tryd.func13, Tryd.ntmps13
  go_wp2_with fail
  go_loopw [14] (fun v wr => FRel w l n v wr) (fun v _ => n - (intOf v).toNat)
  case atStart => exact ⟨0, Nat.zero_le _, rfl, by simp, by simpa [AS.fmtL] using HST.out⟩
  case round =>
    obtain ⟨k, hk, rfl, hall, I⟩ := hrel
    have HI := Lib.hid I
    have HALL := Lib.hid hall
    clear I hall
    by_cases hlt : k < n
    · have hlt' : k < l.length := by rw [HN.out]; exact hlt
      obtain ⟨i, hi⟩ : ∃ i, l[k]? = some i := ⟨_, List.getElem?_eq_getElem hlt'⟩
      have hbw : Below w.heap.size w wr := HI.out.be
      obtain ⟨rb, ro, rfl, hrb, c0, c1, c2, c3, c4⟩ := (HR.out.below hbw).ins hi
      have hop := HO.out i (List.mem_of_getElem? hi)
      have I1 := HI.out.alloc (insV i) 48 (by decide) rfl
      have hbx : Below w.heap.size w (wr.alloc (.cells (insV i) 48)) := I1.be
      have HVA := Lib.hid (valid_any i hop _ (HF.out.below hbx))
      have HI1 := Lib.hid I1
      have HII := Lib.hid hi
      obtain ⟨x0, x1, x2, x3, x4⟩ := I1.b0.five
      have q0 : (k : Int) < (n : Int) := by omega
      clear hbw I1 hbx hi hrb
      cases hv : AS.valid i with
      | false =>
        rw [hv] at HVA
        have hR : R = ([], 3) := by
          rw [HFM.out, if_neg]
          intro h
          have := List.all_eq_true.1 h i (List.mem_of_getElem? HII.out)
          rw [hv] at this; cases this
        have HRR := Lib.hid hR
        clear hR hv
        go_wp2_with fail
        refine HVA.out.mono ?_
        rintro e w2 ⟨rfl, hb2⟩
        have HI2 := Lib.hid (HI1.out.below hb2)
        clear hb2 c0 c1 c2 c3 c4 x0 x1 x2 x3 x4
        go_wp2_with fail
        go_ret2
        rw [HRR.out]
        exact ⟨rfl, HI2.out.be⟩
      | true =>
        rw [hv] at HVA
        have HV := Lib.hid hv
        have h30 := AS.valid_lt hv
        have hlen := fmtL_le l k HALL.out (by omega)
        have hnl : (AS.name i.op).length ≤ 6 := (AS.name_ok i.op h30).2.2.2
        clear hv
        go_wp2_with fail
        refine HVA.out.mono ?_
        rintro e w2 ⟨rfl, hb2⟩
        have I2 := HI1.out.below hb2
        have HI2 := Lib.hid I2
        have HMN := Lib.hid (mnemonic_any i.op h30 w2 (HF.out.below I2.be))
        clear hb2 c0 c1 c2 c3 c4 x0 x1 x2 x3 x4 I2
        have y0 : w2.cell? ⟨wr.heap.size, 0, none⟩ = some (.int .u8 (i.op : Int)) := HI2.out.b0.cell 0
        go_wp2_with fail
        refine HMN.out.mono ?_
        rintro e w3 ⟨rfl, rfl⟩
        go_wp2_with fail
        refine (bStr (AS.name i.op) HI2.out (by omega)).mono ?_
        rintro e w3 ⟨⟨v3, rfl⟩, I3, _⟩
        have HI3 := Lib.hid I3
        have z0 : w3.cell? ⟨wr.heap.size, 0, none⟩ = some (.int .u8 (i.op : Int)) := I3.b0.cell 0
        have HOP := Lib.hid (operands_any i.op h30 w3)
        clear y0 I3
        go_wp2_with fail
        refine HOP.out.mono ?_
        rintro e w4 ⟨A4, c4, rfl, hb4, hr4⟩
        have HST4 := Lib.hid (show ORel w l k wr.heap.size i A4 (.int .i64 0) w4 from ⟨0, Nat.zero_le _, rfl, by have := HI3.out.below hb4; simpa [partL] using this, hr4⟩)
        have hsl := AS.shape_len i.op
        have hsk := AS.shape_le i.op
        generalize hSN : (AS.shape i.op).length = sn at *
        have HSN := Lib.hid hSN
        have HSK := Lib.hid hsk
        clear hb4 hr4 z0 HI3 HI2 hSN hsk HI1 HI HVA HOP HMN
        generalize wr.heap.size = n1 at *
        go_wp2_with fail
        go_loopw [29] (fun v wx => ORel w l k n1 i A4 v wx) (fun v _ => sn - (intOf v).toNat)
        case atStart => exact HST4.out
        case round =>
          obtain ⟨j, hj, rfl, IJ, hrw⟩ := hrel
          have HIJ := Lib.hid IJ
          have HRW := Lib.hid hrw
          have hpl := partL_le i j HV.out
          clear IJ hrw
          by_cases hjl : j < sn
          · obtain ⟨k2, hk2⟩ : ∃ k2, (AS.shape i.op)[j]? = some k2 := ⟨_, List.getElem?_eq_getElem (by rw [HSN.out]; exact hjl)⟩
            have hk23 := HSK.out k2 (List.mem_of_getElem? hk2)
            obtain ⟨ob, og, rfl, hob, d0, d1, hreg⟩ := HRW.out.one hk2
            have HK2 := Lib.hid hk2
            have hvi := AS.valid_in HV.out hk23
            have hls := AS.lim_small i.op k2
            have q1 : (j : Int) < (sn : Int) := by omega
            have HREG := Lib.hid hreg
            have hwl := AS.word_len HV.out hk23
            clear hk2 hreg
            by_cases hk3 : k2 = 3
            · have hcf := fun v W => cf_w3 v W
              have d0' : wr.cell? ⟨ob, j * 2, none⟩ = some (.func (.func 46) #[] #[]) := by rw [d0, hk3]; rfl
              have d1' : wr.cell? ⟨ob, j * 2 + 1, none⟩ = some (.func (.func 48) #[] #[]) := by rw [d1, hk3]; rfl
              clear d0 d1
              rw [hk3] at hwl
              have hvi3 : -131072 ≤ i.imm ∧ i.imm ≤ 131071 := by rw [hk3] at hvi hls; exact ⟨Int.le_trans hls.1 hvi.1, Int.le_trans hvi.2 hls.2⟩
              have I5 := HIJ.out.alloc #[.func (.func 46) #[] #[], .func (.func 48) #[] #[]] 68 (by decide) rfl
              have HRW5 := Lib.hid (HRW.out.below ((Below.refl _ _).alloc (Nat.le_refl _) (.cells #[.func (.func 46) #[] #[], .func (.func 48) #[] #[]] 68)))
              have HI5 := Lib.hid I5
              have HREG5 := Lib.hid (HREG.out.below ((Below.refl _ _).alloc (Nat.le_refl _) (.cells #[.func (.func 46) #[] #[], .func (.func 48) #[] #[]] 68)))
              clear I5
              go_wp2_with fail
              refine (bByte 32 32 rfl HI5.out (by simp only [List.length_append] at hpl ⊢; omega)).mono ?_
              rintro e w6 ⟨rfl, I6, ho6⟩
              have HRW6 := Lib.hid (OpsRow.others HI5.out HRW5.out ho6)
              have f0 : w6.cell? ⟨wr.heap.size, 0, none⟩ = some (.func (.func 46) #[] #[]) := I6.b0.cell 0
              obtain ⟨x0, x1, x2, x3, x4⟩ := I6.b1.five
              have HREG6 := Lib.hid (show RegAt w6 k2 og from fun hk => (HREG5.out hk).others ho6 (HI5.out.ne (HREG5.out hk) (by decide)) (by decide))
              have HI6 := Lib.hid I6
              have HCALL := Lib.hid (wimm_any i hvi3.1 hvi3.2 w6 (HP.out.below HI6.out.be))
              clear I6 ho6 d0' d1'
              go_wp2_with fail
              refine HCALL.out.mono ?_
              rintro e w7 ⟨rfl, hb7⟩
              have HI7 := Lib.hid (HI6.out.below hb7)
              have HRW7 := Lib.hid (HRW6.out.below hb7)
              clear hb7 f0 x0 x1 x2 x3 x4 HCALL HI6
              go_wp2_with fail
              refine (bStr (AS.word i 3) HI7.out (by simp only [List.length_append, List.length_cons, List.length_nil] at hpl ⊢; omega)).mono ?_
              rintro e w8 ⟨⟨v8, rfl⟩, I8, ho8⟩
              have HRW8 := Lib.hid (OpsRow.others HI7.out HRW7.out ho8)
              have HI8 := Lib.hid (I8.sub (bl' := [(n1, 48, insV i)]) (fun x hx => by simp at hx; subst hx; simp))
              clear I8 ho8
              go_wp2_with fail
              refine ⟨⟨j + 1, by rw [HSN.out]; omega, by simp, ?_, HRW8.out⟩, by simp [intOf]; omega⟩
              have := HI8.out
              rw [partL_succ i j 3 (by rw [HK2.out, hk3])]
              simpa [List.append_assoc] using this
            · have hcf := fun u v W => cf_wr u v W
              have hk22 : k2 ≤ 2 := by omega
              have d0' : wr.cell? ⟨ob, j * 2, none⟩ = some (.func (.func 61) #[] #[.pointer (some ⟨og, 0, none⟩)]) := by rw [d0]; unfold fnW; rw [if_neg hk3]
              have d1' : wr.cell? ⟨ob, j * 2 + 1, none⟩ = some (.func (.func 62) #[] #[.pointer (some ⟨og, 0, none⟩)]) := by rw [d1]; unfold fnR; rw [if_neg hk3]
              clear d0 d1
              have I5 := HIJ.out.alloc #[.func (.func 61) #[] #[.pointer (some ⟨og, 0, none⟩)], .func (.func 62) #[] #[.pointer (some ⟨og, 0, none⟩)]] 68 (by decide) rfl
              have HRW5 := Lib.hid (HRW.out.below ((Below.refl _ _).alloc (Nat.le_refl _) (.cells #[.func (.func 61) #[] #[.pointer (some ⟨og, 0, none⟩)], .func (.func 62) #[] #[.pointer (some ⟨og, 0, none⟩)]] 68)))
              have HI5 := Lib.hid I5
              have HREG5 := Lib.hid (HREG.out.below ((Below.refl _ _).alloc (Nat.le_refl _) (.cells #[.func (.func 61) #[] #[.pointer (some ⟨og, 0, none⟩)], .func (.func 62) #[] #[.pointer (some ⟨og, 0, none⟩)]] 68)))
              clear I5
              go_wp2_with fail
              refine (bByte 32 32 rfl HI5.out (by simp only [List.length_append] at hpl ⊢; omega)).mono ?_
              rintro e w6 ⟨rfl, I6, ho6⟩
              have HRW6 := Lib.hid (OpsRow.others HI5.out HRW5.out ho6)
              have f0 : w6.cell? ⟨wr.heap.size, 0, none⟩ = some (.func (.func 61) #[] #[.pointer (some ⟨og, 0, none⟩)]) := I6.b0.cell 0
              obtain ⟨x0, x1, x2, x3, x4⟩ := I6.b1.five
              have HREG6 := Lib.hid (show RegAt w6 k2 og from fun hk => (HREG5.out hk).others ho6 (HI5.out.ne (HREG5.out hk) (by decide)) (by decide))
              have HI6 := Lib.hid I6
              have HCALL := Lib.hid (wreg_any i k2 og hk22 (Int.le_trans hls.1 hvi.1) (Int.le_trans hvi.2 hls.2) w6 (HP.out.below HI6.out.be) HREG6.out)
              clear I6 ho6 d0' d1'
              go_wp2_with fail
              refine HCALL.out.mono ?_
              rintro e w7 ⟨rfl, hb7⟩
              have HI7 := Lib.hid (HI6.out.below hb7)
              have HRW7 := Lib.hid (HRW6.out.below hb7)
              clear hb7 f0 x0 x1 x2 x3 x4 HCALL HI6
              go_wp2_with fail
              refine (bStr (AS.word i k2) HI7.out (by simp only [List.length_append, List.length_cons, List.length_nil] at hpl ⊢; omega)).mono ?_
              rintro e w8 ⟨⟨v8, rfl⟩, I8, ho8⟩
              have HRW8 := Lib.hid (OpsRow.others HI7.out HRW7.out ho8)
              have HI8 := Lib.hid (I8.sub (bl' := [(n1, 48, insV i)]) (fun x hx => by simp at hx; subst hx; simp))
              clear I8 ho8
              go_wp2_with fail
              refine ⟨⟨j + 1, by rw [HSN.out]; omega, by simp, ?_, HRW8.out⟩, by simp [intOf]; omega⟩
              have := HI8.out
              rw [partL_succ i j _ HK2.out]
              simpa [List.append_assoc] using this
          · have hjs : j = sn := by rw [HSN.out] at hj; omega
            have q1 : ¬ (j : Int) < (sn : Int) := by omega
            have HJS := Lib.hid hjs
            clear hjs
            go_wp2_with fail
            refine (bByte 10 10 rfl HIJ.out (by simp only [List.length_append] at hpl ⊢; omega)).mono ?_
            rintro e w9 ⟨rfl, I9, _⟩
            have HI9 := Lib.hid (I9.sub (bl' := []) (fun x hx => by simp at hx))
            clear I9
            go_wp2_with fail
            refine ⟨⟨k + 1, by omega, by simp, ?_, ?_⟩, by simp [intOf]; omega⟩
            · obtain ⟨hkl, hie⟩ := List.getElem?_eq_some_iff.1 HII.out
              rw [List.take_succ_eq_append_getElem hkl, List.all_append, HALL.out, hie]
              simp [HV.out]
            · rw [fmtL_take l k i HII.out, ← partL_all i j (by rw [HJS.out, HSN.out])]
              have := HI9.out
              simpa [List.append_assoc] using this
    · have hkn : k = n := by omega
      have q1 : ¬ (k : Int) < (n : Int) := by omega
      have htk : l.take k = l := by rw [hkn, ← HN.out]; exact List.take_length
      rw [htk] at HALL HI
      have hR : R = (AS.fmtL l, 0) := by rw [HFM.out, if_pos HALL.out]
      have HRR := Lib.hid hR
      have HST2 := Lib.hid (Tryd.Builder_String_any_k w.heap.size w.heap.size (AS.fmtL l) wr HI.out.pg HI.out.size)
      clear hR htk
      go_wp2_with fail
      refine HST2.out.mono ?_
      rintro e w3 ⟨rfl, h3, hb3, _⟩
      have HB3 := Lib.hid (HI.out.be.trans hb3)
      clear h3 hb3
      go_wp2_with fail
      go_ret2
      rw [HRR.out]
      exact ⟨rfl, HB3.out⟩
end
end Go.Proofs.YtgeagpplihecmaaDoor
