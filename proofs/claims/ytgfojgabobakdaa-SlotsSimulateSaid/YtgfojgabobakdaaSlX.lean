/- The reference's Check. -/
import Derived.Test.YtgfojgabobakdaaSlU
import Derived.Test.YtgfojgabobakdaaPlainSl9
import Derived.BigQuiet
namespace Go.Proofs.Ytgfojgabobakdaa
open Go.RowKit Go.Maps Go.Sort Go.Lib
open SL (Tk Jb Ms Cd)
section
set_option maxHeartbeats 4000000
set_option maxRecDepth 100000
theorem rcheck_any (ts : List Tk) (TA : Option Addr) (tc : Nat) (rs : List (List Int)) (rA : Option Addr) (rc : Nat) (S : List (List Int)) (A : Option Addr) (n c : Nat) (cores : Int) (w : World)
    (hts : Row w TA (tkRow ts)) (hok : ∀ t ∈ ts, SL.okTk t = true) (_ht8 : ts.length ≤ 8) (hrs : RelV w (.slice rA rs.length rc) rs) (hrl : rs.length = ts.length) (hr20 : ∀ r ∈ rs, r.length ≤ 20) (hr0 : ∀ r ∈ rs, ∀ x ∈ r, 0 ≤ x)
    (hr : RelV w (.slice A n c) S) (hl : S.length ≤ 100) (hlr : ∀ r ∈ S, r.length ≤ maxLen) :
    Calls Try.prog 22 #[.slice TA ts.length tc, .int .i64 cores, .slice rA rs.length rc, .slice A n c] w fun e w' => e = .returned (.int .i64 (SL.chkR ts rs S cores S 0 : Nat)) ∧ Gr w w' := by
  have mixed : Try.prog.follows .mixedOrders = true := by kernel_rfl
  have HTS := Lib.hid hts
  have HOK := Lib.hid hok
  have HRS := Lib.hid hrs
  have HRL := Lib.hid hrl
  have HR20 := Lib.hid hr20
  have HR0 := Lib.hid hr0
  have HLR := Lib.hid (show ∀ r ∈ S, r.length ≤ 9223372036854775807 from hlr)
  have HLR2 := Lib.hid hlr
  have HS := Lib.hid hr
  obtain rfl := relV_len hr
  obtain ⟨R, hR⟩ : ∃ R : Nat, R = SL.chkR ts rs S cores S 0 := ⟨_, rfl⟩
  have HR := Lib.hid hR
  rw [← hR]
  clear hts hok hrs hr20 hr0 hlr hr hR hrl
  go_enter Try.func22, Try.ntmps22
  go_wp2_with fail
  go_loopw [9] (fun v wr => ∃ t : Nat, t ≤ S.length ∧ v = .int .i64 (t : Int) ∧ Hid (R = SL.chkR ts rs S cores (S.drop t) t) ∧ Gr w wr) (fun v _ => S.length - (intOf v).toNat)
  case atStart => exact ⟨0, Nat.zero_le _, rfl, HR, Gr.refl _⟩
  case round =>
    obtain ⟨t, ht, rfl, HRT, hg⟩ := hrel
    have HG := Lib.hid hg
    by_cases hlt : t < S.length
    · have q0 : (t : Int) < (S.length : Int) := by omega
      obtain ⟨r, hrt⟩ : ∃ r, S[t]? = some r := ⟨_, List.getElem?_eq_getElem hlt⟩
      obtain ⟨sb, so, sA, sc, rfl, hsb, s1, hrow⟩ := relV_at HS.out hrt
      have hrl0 := HLR.out r (List.mem_of_getElem? hrt)
      have HC := Lib.hid (show R = if SL.chkRowR ts rs S cores t r = 0 then SL.chkR ts rs S cores (S.drop (t + 1)) (t + 1) else SL.chkRowR ts rs S cores t r by rw [HRT.out, SL.chkR_at hrt])
      have HS1 := Lib.hid (show ∀ W, Gr w W → W.cell? ⟨sb, so + t, none⟩ = some (.slice sA r.length sc) from fun W h => (h.1.cell (p := ⟨sb, so + t, none⟩) hsb).trans s1)
      have HROW := Lib.hid (show ∀ W, Gr w W → Row W sA (r.map (Value.int .i64)) from fun W h => hrow.below h.1)
      have HF3 := Lib.hid (show SL.asc ts.length (-1) r = false → R = 3 from fun h => by
        rw [HC.out]; unfold SL.chkRowR; rw [h]; rfl)
      clear hrt s1 hrow hg
      go_wp2_with fail
      go_loopw [10] (fun v wr => ∃ k : Nat, k ≤ r.length ∧ v = .int .i64 (k : Int) ∧ Hid (SL.AscRel ts.length r k) ∧ Gr w wr) (fun v _ => r.length - (intOf v).toNat)
      case atStart => exact ⟨0, Nat.zero_le _, rfl, Lib.hid (SL.ascRel0 _ _), HG.out⟩
      case round =>
        obtain ⟨k, hk, rfl, HA, hg⟩ := hrel
        have HG := Lib.hid hg
        have c1 := HS1.out wr hg
        by_cases hkl : k < r.length
        · have q1 : (k : Int) < (r.length : Int) := by omega
          obtain ⟨x, hx⟩ : ∃ x, r[k]? = some x := ⟨_, List.getElem?_eq_getElem hkl⟩
          obtain ⟨xb, xo, rfl, _, cx⟩ := (HROW.out wr hg).at (show (r.map (Value.int .i64))[k]? = some (.int .i64 x) by simp [hx])
          by_cases hneg : x < 0
          · have d1 : decide (x < 0) = true := decide_eq_true hneg
            have HR3 := Lib.hid (HF3.out (SL.ascRel_bad HA.out hx (.inl hneg)))
            clear hneg hx hg
            go_wp2_with fail
            go_quiet (fail)
            go_wp2_with fail
            go_ret
            rw [HR3.out]
            exact ⟨rfl, HG.out.drewN _⟩
          · have d1 : decide (x < 0) = false := decide_eq_false hneg
            by_cases hbig : (ts.length : Int) ≤ x
            · have d2 : decide ((ts.length : Int) ≤ x) = true := decide_eq_true hbig
              have HR3 := Lib.hid (HF3.out (SL.ascRel_bad HA.out hx (.inr (.inl hbig))))
              clear hneg hx hg hbig
              go_wp2_with fail
              go_quiet (fail)
              go_wp2_with fail
              go_ret
              rw [HR3.out]
              exact ⟨rfl, HG.out.drewN _⟩
            · have d2 : decide ((ts.length : Int) ≤ x) = false := decide_eq_false hbig
              cases k with
              | zero =>
                have cx : wr.cell? ⟨xb, xo, none⟩ = some (.int .i64 x) := cx
                have HA1 := Lib.hid (SL.ascRel_succ HA.out hx (by omega) (by omega) (fun j y h _ => by omega))
                clear hneg hx hg hbig HA
                go_wp2_with fail
                go_quiet (fail)
                go_wp2_with fail
                exact ⟨⟨0 + 1, hkl, by simp, HA1, HG.out.drewN _⟩, by simp [intOf]; omega⟩
              | succ k' =>
                obtain ⟨y, hy⟩ : ∃ y, r[k']? = some y := ⟨_, List.getElem?_eq_getElem (by omega)⟩
                obtain ⟨xb', xo', hA', _, cy⟩ := (HROW.out wr hg).at (show (r.map (Value.int .i64))[k']? = some (.int .i64 y) by simp [hy])
                injection hA' with hA'
                injection hA' with e1 e2
                subst e1 e2
                have z2 : IntKind.i64.wrap ((k' : Int) + 1 - 1) = (k' : Int) := by rw [show (k' : Int) + 1 - 1 = (k' : Int) from by omega]; exact IntWalk.i64_in _ (by omega)
                have q6 : (k' : Int) < (r.length : Int) := by omega
                by_cases hle : x ≤ y
                · have d3 : decide (x ≤ y) = true := decide_eq_true hle
                  have HR3 := Lib.hid (HF3.out (SL.ascRel_bad HA.out hx (.inr (.inr ⟨k', y, rfl, hy, hle⟩))))
                  clear hneg hx hg hbig hle hy
                  go_wp2_with fail
                  go_quiet (fail)
                  go_wp2_with fail
                  go_ret
                  rw [HR3.out]
                  exact ⟨rfl, HG.out.drewN _⟩
                · have d3 : decide (x ≤ y) = false := decide_eq_false hle
                  have HA1 := Lib.hid (SL.ascRel_succ HA.out hx (by omega) (by omega) (fun j z h hz => by
                    have e : j = k' := by omega
                    subst e
                    rw [hy] at hz
                    injection hz with hz
                    omega))
                  clear hneg hx hg hbig hle hy HA
                  go_wp2_with fail
                  go_quiet (fail)
                  go_wp2_with fail
                  exact ⟨⟨k' + 1 + 1, hkl, by simp, HA1, HG.out.drewN _⟩, by simp [intOf]; omega⟩
        · have q1 : ¬ (k : Int) < (r.length : Int) := by omega
          have hasc := SL.ascRel_end HA.out (by omega)
          have HCR := Lib.hid (show SL.chkRowR ts rs S cores t r = if cores < r.length then 20 else if r.all (SL.pendRAt ts rs S t) then 0 else 14 by unfold SL.chkRowR; rw [hasc]; rfl)
          have HMEM := Lib.hid (show ∀ x ∈ r, 0 ≤ x ∧ x < (ts.length : Int) from fun x hx => by
            have := SL.asc_mem hasc x hx
            omega)
          by_cases hco : cores < (r.length : Int)
          · have d1 : decide (cores < (r.length : Int)) = true := decide_eq_true hco
            have HR20 := Lib.hid (show R = 20 by rw [HC.out, HCR.out, if_pos hco]; rfl)
            clear hg hasc hco
            go_wp2_with fail
            go_ret
            rw [HR20.out]
            exact ⟨rfl, HG.out⟩
          · have d1 : decide (cores < (r.length : Int)) = false := decide_eq_false hco
            have HCR2 := Lib.hid (show SL.chkRowR ts rs S cores t r = if r.all (SL.pendRAt ts rs S t) then 0 else 14 by rw [HCR.out, if_neg hco])
            clear hg hasc hco HCR
            go_wp2_with fail
            go_loopw [11] (fun v wr => ∃ k : Nat, k ≤ r.length ∧ v = .int .i64 (k : Int) ∧ Hid ((r.take k).all (SL.pendRAt ts rs S t) = true) ∧ Gr w wr) (fun v _ => r.length - (intOf v).toNat)
            case atStart => exact ⟨0, Nat.zero_le _, rfl, Lib.hid (by simp), HG.out⟩
            case round =>
              obtain ⟨k, hk, rfl, HA, hg⟩ := hrel
              have HG := Lib.hid hg
              have c1 := HS1.out wr hg
              by_cases hkl : k < r.length
              · have q1 : (k : Int) < (r.length : Int) := by omega
                obtain ⟨x, hx⟩ : ∃ x, r[k]? = some x := ⟨_, List.getElem?_eq_getElem hkl⟩
                obtain ⟨xb, xo, rfl, _, cx⟩ := (HROW.out wr hg).at (show (r.map (Value.int .i64))[k]? = some (.int .i64 x) by simp [hx])
                obtain ⟨hx0, hx1⟩ := HMEM.out x (List.mem_of_getElem? hx)
                obtain ⟨i, rfl⟩ : ∃ i : Nat, x = (i : Int) := ⟨x.toNat, by omega⟩
                have hil : i < ts.length := by omega
                have q2 : (i : Int) < (ts.length : Int) := hx1
                have q3 : (i : Int) < (rs.length : Int) := by rw [HRL.out]; exact hx1
                obtain ⟨tk, htk⟩ : ∃ tk, ts[i]? = some tk := ⟨_, List.getElem?_eq_getElem hil⟩
                obtain ⟨rr, hri⟩ : ∃ rr, rs[i]? = some rr := ⟨_, List.getElem?_eq_getElem (by rw [HRL.out]; exact hil)⟩
                obtain ⟨tb, to_, rfl, htb, t0, t1, t2⟩ := HTS.out.tk htk
                obtain ⟨rb, ro, Ar, cr, rfl, hrb, r1, hrow2⟩ := relV_at HRS.out hri
                have HP := Lib.hid (show SL.pendRAt ts rs S t (i : Int) = SL.pendB tk (SL.pendR tk rr S i t) by
                  unfold SL.pendRAt
                  rw [Int.toNat_natCast, htk, hri])
                have HAS := Lib.hid (show (r.take (k + 1)).all (SL.pendRAt ts rs S t) = SL.pendB tk (SL.pendR tk rr S i t) by
                  rw [SL.take_snoc hx, List.all_append, HA.out, Bool.true_and, ← HP.out]
                  simp)
                have HAF := Lib.hid (show SL.pendB tk (SL.pendR tk rr S i t) = false → R = 14 from fun h => by
                  have : r.all (SL.pendRAt ts rs S t) = false := by
                    rw [← Bool.not_eq_true, List.all_eq_true]
                    intro h2
                    have h3 := h2 _ (List.mem_of_getElem? hx)
                    rw [HP.out, h] at h3
                    cases h3
                  rw [HC.out, HCR2.out, this]; rfl)
                have HPC := Lib.hid (fun (W : World) (h : Gr w W) => (show Calls Try.prog 32 #[.agg #[.string tk.name, .int .i64 tk.cost, .int .i64 tk.per], .slice Ar rr.length cr, .slice (some ⟨sb, so, none⟩) S.length c, .int .i64 (i : Int), .int .i64 (t : Int)] W fun e w' => e = .returned (.tuple (pendV tk (SL.pendR tk rr S i t))) ∧ Gr W w' from
                  pendR_any tk rr Ar cr S _ S.length c i t W (HOK.out tk (List.mem_of_getElem? htk)) (hrow2.below h.1) (by have := HR20.out rr (List.mem_of_getElem? hri); omega) (HR0.out rr (List.mem_of_getElem? hri)) (HS.out.below h.1) (by omega) HLR2.out (by omega)))
                have x0 := fun n os => (((gr_grown HG.out n os).1.cell (p := ⟨tb, to_ + i * 3, none⟩) htb).trans t0)
                have x1 := fun n os => (((gr_grown HG.out n os).1.cell (p := ⟨tb, to_ + i * 3 + 1, none⟩) htb).trans t1)
                have x2 := fun n os => (((gr_grown HG.out n os).1.cell (p := ⟨tb, to_ + i * 3 + 2, none⟩) htb).trans t2)
                have x3 := fun n os => (((gr_grown HG.out n os).1.cell (p := ⟨rb, ro + i, none⟩) hrb).trans r1)
                generalize SL.pendR tk rr S i t = pr at *
                clear hx htk hri t0 t1 t2 r1 hrow2 hg HA HP
                go_wp2_with fail
                cases pr with
                | none =>
                  rw [show pendV tk none = #[.int .i64 0, .int .i64 0, .bool false] from rfl] at HPC
                  have HR14 := Lib.hid (HAF.out rfl)
                  go_quiet_grown ((go_at_call 32; exact Calls.grown_of (Calls.gr (HPC.out _ (gr_grown HG.out _ _)))))
                  go_wp2_with fail
                  go_ret
                  rw [HR14.out]
                  exact ⟨rfl, gr_grown HG.out _ _⟩
                | some p =>
                  obtain ⟨x, m⟩ := p
                  rw [show pendV tk (some (x, m)) = #[.int .i64 x, .int .i64 (m : Int), .bool (decide ((m : Int) < tk.cost))] from rfl] at HPC
                  rw [show SL.pendB tk (some (x, m)) = decide ((m : Int) < tk.cost) from rfl] at HAF HAS
                  generalize decide ((m : Int) < tk.cost) = b at *
                  go_quiet_grown ((go_at_call 32; exact Calls.grown_of (Calls.gr (HPC.out _ (gr_grown HG.out _ _)))))
                  cases b with
                  | false =>
                    have HR14 := Lib.hid (HAF.out rfl)
                    go_wp2_with fail
                    go_ret
                    rw [HR14.out]
                    exact ⟨rfl, gr_grown HG.out _ _⟩
                  | true =>
                    go_wp2_with fail
                    exact ⟨⟨k + 1, hkl, by simp, HAS, gr_grown HG.out _ _⟩, by simp [intOf]; omega⟩
              · have q1 : ¬ (k : Int) < (r.length : Int) := by omega
                have HN := Lib.hid (show R = SL.chkR ts rs S cores (S.drop (t + 1)) (t + 1) by
                  have h := HA.out
                  rw [List.take_of_length_le (by omega)] at h
                  rw [HC.out, HCR2.out, h]; rfl)
                clear hg
                go_wp2_with fail
                exact ⟨⟨t + 1, hlt, by simp, HN, HG.out⟩, by simp [intOf]; omega⟩
    · have q0 : ¬ (t : Int) < (S.length : Int) := by omega
      have HE := Lib.hid (show R = 0 by rw [HRT.out, List.drop_eq_nil_of_le (by omega)]; rfl)
      clear hg
      go_wp2_with fail
      go_ret
      rw [HE.out]
      exact ⟨rfl, HG.out⟩
end
end Go.Proofs.Ytgfojgabobakdaa
