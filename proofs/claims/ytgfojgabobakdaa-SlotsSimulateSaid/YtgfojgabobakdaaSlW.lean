/- The reference's Misses. -/
import Derived.Test.YtgfojgabobakdaaSlU
import Derived.Test.YtgfojgabobakdaaPlainSl9
namespace Go.Proofs.Ytgfojgabobakdaa
open Go.RowKit Go.Maps Go.Sort Go.Lib
open SL (Tk Jb Ms Cd)
/-- A sum that may turn round: it is a small number only where it is one. -/
theorem wrap_small {x p : Int} {s : Nat} (h0 : 0 ≤ x) (hx : x ≤ 9223372036854775807) (hp : 1 ≤ p) (hp2 : p ≤ 1000) : ∃ y, IntKind.i64.wrap (x + p) = y ∧ (y = (s : Int) ↔ x + p = (s : Int) ∧ x + p ≤ 9223372036854775807) := by
  by_cases h : x + p ≤ 9223372036854775807
  · exact ⟨x + p, IntWalk.i64_in _ (by omega), by omega⟩
  · refine ⟨x + p - 18446744073709551616, ?_, by omega⟩
    rw [IntKind.wrap_i64]
    omega
section
set_option maxHeartbeats 4000000
set_option maxRecDepth 100000
theorem rmisses_any (ts : List Tk) (TA : Option Addr) (tc : Nat) (rs : List (List Int)) (rA : Option Addr) (rc : Nat) (S : List (List Int)) (A : Option Addr) (n c : Nat) (w : World)
    (hts : Row w TA (tkRow ts)) (hok : ∀ t ∈ ts, SL.okTk t = true) (ht8 : ts.length ≤ 8) (hrs : RelV w (.slice rA rs.length rc) rs) (hrl : rs.length = ts.length) (hr20 : ∀ r ∈ rs, r.length ≤ 20) (hr0 : ∀ r ∈ rs, ∀ x ∈ r, 0 ≤ x ∧ x ≤ 9223372036854775807)
    (hr : RelV w (.slice A n c) S) (hl : S.length ≤ 100) (hlr : ∀ r ∈ S, r.length ≤ maxLen) :
    Calls Try.prog 17 #[.slice TA ts.length tc, .slice rA rs.length rc, .slice A n c] w fun e w' => ∃ A' c', e = .returned (.slice A' (SL.missL ts rs S (S.length + 1)).length c') ∧ Row w' A' (msC (SL.missL ts rs S (S.length + 1))) ∧ Below w.heap.size w w' := by
  obtain ⟨i1, ki, kz0, kz1, kz2⟩ := info_parts infoMs1
  have K0 := Lib.hid ki
  have K1 := Lib.hid kz0
  have K2 := Lib.hid kz1
  have K3 := Lib.hid kz2
  have HTS := Lib.hid hts
  have HOK := Lib.hid hok
  have HRS := Lib.hid hrs
  have HRL := Lib.hid hrl
  have HR20 := Lib.hid hr20
  have HR0 := Lib.hid hr0
  have HLR := Lib.hid hlr
  have HS := Lib.hid hr
  obtain rfl := relV_len hr
  have HLL := Lib.hid (show ∀ t, t ≤ S.length + 1 → (SL.missL ts rs S t).length ≤ 16160 from fun t ht => by
    have h1 := SL.missL_len S hr20 t (ts := ts)
    have h2 : t * (ts.length * 20) ≤ 101 * (8 * 20) := Nat.mul_le_mul (by omega) (Nat.mul_le_mul ht8 (Nat.le_refl _))
    omega)
  have HLA := Lib.hid (show ∀ i t, (SL.missAt (ts.take i) (rs.take i) S 0 t).length ≤ 160 from fun i t => by
    have h1 := SL.missAt_len (ts := ts.take i) (rs := rs.take i) S 0 t (fun r hr => hr20 r (List.mem_of_mem_take hr))
    have h2 : (ts.take i).length * 20 ≤ 8 * 20 := Nat.mul_le_mul (by rw [List.length_take]; omega) (Nat.le_refl _)
    omega)
  clear ki kz0 kz1 kz2 hts hok hrs hr20 hr0 hlr hr hrl
  obtain ⟨F, hF⟩ : ∃ F, F = SL.missL ts rs S := ⟨_, rfl⟩
  have HF := Lib.hid hF
  rw [← hF] at HLL ⊢
  clear hF
  go_enter Try.func17, Try.ntmps17
  go_wp2_with fail
  go_loopw [7, 8] (fun ov v wr => ∃ t : Nat, t ≤ S.length + 1 ∧ v = .int .i64 (t : Int) ∧ wr.ownsRow w.heap.size 83 3 ov (F t).length (msC (F t)) ∧ Below w.heap.size w wr) (fun _ v _ => S.length + 1 - (intOf v).toNat)
  case atStart => exact ⟨0, Nat.zero_le _, rfl, by rw [HF.out]; exact World.ownsRow_nil _ _ _ _, Below.refl _ _⟩
  case round =>
    obtain ⟨t, ht, rfl, how, hbw⟩ := hrel
    obtain ⟨oA, oc, rfl⟩ := own_form how
    have HO := Lib.hid how
    have HB := Lib.hid hbw
    have HFT := Lib.hid (HLL.out t ht)
    by_cases hlt : t ≤ S.length
    · have q0 : (t : Int) ≤ (S.length : Int) := by omega
      clear how hbw
      go_wp2_with fail
      go_loopw [7, 9] (fun ov v wr => ∃ (i : Nat) (l : List Ms), i ≤ ts.length ∧ v = .int .i64 (i : Int) ∧ Hid (l = F t ++ SL.missAt (ts.take i) (rs.take i) S 0 t) ∧ wr.ownsRow w.heap.size 83 3 ov l.length (msC l) ∧ Below w.heap.size w wr) (fun _ v _ => ts.length - (intOf v).toNat)
      case atStart => exact ⟨0, F t, Nat.zero_le _, rfl, Lib.hid (by simp [SL.missAt]), HO.out, HB.out⟩
      case round =>
        obtain ⟨i, l, hi, rfl, HL1, how, hbw⟩ := hrel
        obtain ⟨oA, oc, rfl⟩ := own_form how
        have HO := Lib.hid how
        have HB := Lib.hid hbw
        clear how hbw
        by_cases hil : i < ts.length
        · have q1 : (i : Int) < (ts.length : Int) := by omega
          have q2 : (i : Int) < (rs.length : Int) := by have := HRL.out; omega
          obtain ⟨tk, htk⟩ : ∃ tk, ts[i]? = some tk := ⟨_, List.getElem?_eq_getElem hil⟩
          obtain ⟨r, hri⟩ : ∃ r, rs[i]? = some r := ⟨_, List.getElem?_eq_getElem (by rw [HRL.out]; exact hil)⟩
          obtain ⟨v1, v2, v3⟩ := SL.okTk_iff.1 (HOK.out tk (List.mem_of_getElem? htk))
          have hr20 := HR20.out r (List.mem_of_getElem? hri)
          have HR0r := Lib.hid (HR0.out r (List.mem_of_getElem? hri))
          have HAT := Lib.hid (SL.missAt_take ts rs S 0 t i tk r htk hri)
          rw [Nat.zero_add] at HAT
          obtain ⟨tb, to_, rfl, htb, _, t1, t2⟩ := HTS.out.tk htk
          obtain ⟨rb, ro, Ar, cr, rfl, hrb, r1, hrow⟩ := relV_at HRS.out hri
          have HT1 := Lib.hid (show ∀ W, Below w.heap.size w W → W.cell? ⟨tb, to_ + i * 3 + 1, none⟩ = some (.int .i64 tk.cost) from fun W h => (h.cell (p := ⟨tb, to_ + i * 3 + 1, none⟩) htb).trans t1)
          have HT2 := Lib.hid (show ∀ W, Below w.heap.size w W → W.cell? ⟨tb, to_ + i * 3 + 2, none⟩ = some (.int .i64 tk.per) from fun W h => (h.cell (p := ⟨tb, to_ + i * 3 + 2, none⟩) htb).trans t2)
          have HR1 := Lib.hid (show ∀ W, Below w.heap.size w W → W.cell? ⟨rb, ro + i, none⟩ = some (.slice Ar r.length cr) from fun W h => (h.cell (p := ⟨rb, ro + i, none⟩) hrb).trans r1)
          have HROW := Lib.hid hrow
          have HLL1 := Lib.hid (show l.length ≤ 20000 by
            have h1 := HFT.out
            have h2 := HLA.out i t
            rw [HL1.out, List.length_append]
            omega)
          clear htk hri t1 t2 r1 hrow
          go_wp2_with fail
          go_loopw [7, 10] (fun ov v wr => ∃ (k : Nat) (l2 : List Ms), k ≤ r.length ∧ v = .int .i64 (k : Int) ∧ Hid (l2 = l ++ SL.missT tk (r.take k) S i t) ∧ wr.ownsRow w.heap.size 83 3 ov l2.length (msC l2) ∧ Below w.heap.size w wr) (fun _ v _ => r.length - (intOf v).toNat)
          case atStart => exact ⟨0, l, Nat.zero_le _, rfl, Lib.hid (by simp [SL.missT]), HO.out, HB.out⟩
          case round =>
            obtain ⟨k, l2, hk, rfl, HL2, how, hbw⟩ := hrel
            obtain ⟨oA, oc, rfl⟩ := own_form how
            have HO2 := Lib.hid how
            have HB2 := Lib.hid hbw
            have c1 := HT1.out wr hbw
            have c2 := HT2.out wr hbw
            have c3 := HR1.out wr hbw
            have hsw := hbw.size
            by_cases hkl : k < r.length
            · have q3 : (k : Int) < (r.length : Int) := by omega
              obtain ⟨x, hx⟩ : ∃ x, r[k]? = some x := ⟨_, List.getElem?_eq_getElem hkl⟩
              obtain ⟨xb, xo, rfl, _, cx⟩ := (HROW.out.below hbw).at (show (r.map (Value.int .i64))[k]? = some (.int .i64 x) by simp [hx])
              obtain ⟨hx0, hx1⟩ := HR0r.out x (List.mem_of_getElem? hx)
              obtain ⟨y, hy, hys⟩ := wrap_small (s := t) hx0 hx1 (show 1 ≤ tk.per by omega) v3
              have HTK := Lib.hid (show SL.missT tk (r.take (k + 1)) S i t = SL.missT tk (r.take k) S i t ++ (SL.missF tk S i t x).toList by
                unfold SL.missT
                rw [SL.take_snoc hx, List.filterMap_append]
                simp only [List.filterMap_cons, List.filterMap_nil]
                cases SL.missF tk S i t x <;> rfl)
              obtain ⟨a, ha⟩ : ∃ a : Nat, x = (a : Int) := ⟨x.toNat, by omega⟩
              have hms : SL.missF tk S i t x = if x + tk.per = t ∧ ((SL.cnt S i a t : Nat) : Int) < tk.cost then some ⟨i, x, (SL.cnt S i a t : Nat)⟩ else none := by
                unfold SL.missF
                rw [show x.toNat = a from by omega]
              have hll : l2.length ≤ 20100 := by
                rw [HL2.out, List.length_append]
                have h1 := SL.missT_len tk (r.take k) S i t
                rw [List.length_take] at h1
                have h2 := HLL1.out
                omega
              have HLL2 := Lib.hid hll
              clear how hx
              by_cases hyt : y = (t : Int)
              · have e1 : (y != (t : Int)) = false := by simp [hyt]
                have hxt := (hys.1 hyt).1
                have HC := Lib.hid (received_any S A S.length c i a t wr (HS.out.below hbw) (by omega) HLR.out (by omega))
                rw [← ha] at HC
                have hle := SL.cnt_le S i a t
                generalize SL.cnt S i a t = m at *
                clear hbw ha
                go_wp2_with fail
                (with_reducible refine HC.out.mono ?_)
                rintro e w1 ⟨rfl, rfl⟩
                clear HC
                by_cases hmc : (m : Int) < tk.cost
                · have d1 : decide ((m : Int) < tk.cost) = true := decide_eq_true hmc
                  have HN := Lib.hid (show l2 ++ [⟨i, x, (m : Int)⟩] = l ++ SL.missT tk (r.take (k + 1)) S i t by
                    rw [HTK.out, hms, if_pos ⟨hxt, hmc⟩, HL2.out, List.append_assoc]; rfl)
                  clear hms hys hy hmc hll
                  go_wp2_with (at_builtin; refine wpList_append_own _ rfl _ _ 40 rfl w.heap.size 83 i1 (.agg #[.int .i64 0, .int .i64 0, .int .i64 0]) 3 24 Try.underlying40 K0.out K1.out K2.out K3.out rfl (by decide) _ _ _ rfl (HO2.out.alloc _) ⟨w1.heap.size, 0, none⟩ 1 1 [.int .i64 (i : Int), .int .i64 x, .int .i64 (m : Int)] rfl rfl ?c1 ?c2 ?c3 ?c4 ?c5 ?_)
                  case c1 => exact World.news_of_block (cs := #[.int .i64 (i : Int), .int .i64 x, .int .i64 (m : Int)]) (Blk.new w1 _ _)
                  case c2 => intro u hu; simp at hu; rcases hu with rfl | rfl | rfl <;> rfl
                  case c3 => have := HLL2.out; unfold maxLen; omega
                  case c4 => have := HLL2.out; omega
                  case c5 => have := HLL2.out; simp; omega
                  intro v' w6 hown6 hg6 _
                  have hlt6 := (HO2.out.alloc (.cells #[.int .i64 (i : Int), .int .i64 x, .int .i64 (m : Int)] 83)).lt
                  have hB6 : Below w.heap.size w w6 := Below.grown (HB2.out.alloc hsw (.cells #[.int .i64 (i : Int), .int .i64 x, .int .i64 (m : Int)] 83)) hg6 (by simp; omega) (fun k hk => (hlt6 k hk).1)
                  have HB6 := Lib.hid hB6
                  have HR6 := Lib.hid (show w6.ownsRow w.heap.size 83 3 v' (l2 ++ [(⟨i, x, (m : Int)⟩ : Ms)]).length (msC (l2 ++ [(⟨i, x, (m : Int)⟩ : Ms)])) from (by
                    have h := hown6
                    simpa [msC, msL] using h))
                  clear hown6 hg6 hlt6 hB6
                  go_wp2_with fail
                  exact ⟨⟨k + 1, l2 ++ [⟨i, x, (m : Int)⟩], hkl, by simp, HN, HR6.out, HB6.out⟩, by simp [intOf]; omega⟩
                · have d1 : decide ((m : Int) < tk.cost) = false := decide_eq_false hmc
                  have HN := Lib.hid (show l2 = l ++ SL.missT tk (r.take (k + 1)) S i t by
                    rw [HTK.out, hms, if_neg (fun h => hmc h.2), HL2.out]; simp)
                  clear hms hys hy hmc hll
                  go_wp2_with fail
                  exact ⟨⟨k + 1, l2, hkl, by simp, HN, HO2.out, HB2.out⟩, by simp [intOf]; omega⟩
              · have e1 : (y != (t : Int)) = true := by simp [hyt]
                have HN := Lib.hid (show l2 = l ++ SL.missT tk (r.take (k + 1)) S i t by
                  rw [HTK.out, hms, if_neg (fun h => hyt (hys.2 ⟨h.1, by omega⟩)), HL2.out]; simp)
                clear hms hys hbw hll ha
                go_wp2_with fail
                exact ⟨⟨k + 1, l2, hkl, by simp, HN, HO2.out, HB2.out⟩, by simp [intOf]; omega⟩
            · have q3 : ¬ (k : Int) < (r.length : Int) := by omega
              have HN := Lib.hid (show l2 = F t ++ SL.missAt (ts.take (i + 1)) (rs.take (i + 1)) S 0 t by
                rw [HAT.out, HL2.out, HL1.out, show r.take k = r from List.take_of_length_le (by omega), List.append_assoc])
              clear how hbw
              go_wp2_with fail
              exact ⟨⟨i + 1, l2, hil, by simp, HN, HO2.out, HB2.out⟩, by simp [intOf]; omega⟩
        · have q1 : ¬ (i : Int) < (ts.length : Int) := by omega
          have HN := Lib.hid (show l = F (t + 1) by
            rw [HF.out, SL.missL_succ, HL1.out, HF.out, show ts.take i = ts from List.take_of_length_le (by omega), show rs.take i = rs from List.take_of_length_le (by have := HRL.out; omega)])
          go_wp2_with fail
          exact ⟨⟨t + 1, by omega, by simp, by rw [← HN.out]; exact HO.out, HB.out⟩, by simp [intOf]; omega⟩
    · have q0 : ¬ (t : Int) ≤ (S.length : Int) := by omega
      have HE := Lib.hid (show t = S.length + 1 by omega)
      have HRO := Lib.hid (show Row wr oA (msC (F (S.length + 1))) from by rw [← HE.out]; exact row_own how)
      clear how hbw
      go_wp2_with fail
      go_ret
      rw [HE.out]
      exact ⟨oA, ⟨oc, rfl⟩, HRO.out, HB.out⟩
end
end Go.Proofs.Ytgfojgabobakdaa
