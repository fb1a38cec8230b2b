/- SlotsPreempts: resumed slots are counted, and no job is resumed more often than it runs. -/
import Derived.Test.YtgfojgabobakdaaSlT
import Derived.Test.YtgfojgabobakdaaSlQ
namespace Go.Proofs.Ytgfojgabobakdaa
open Go.RowKit Go.Maps Go.Sort Go.Lib
open SL (Tk Jb Ms Cd)
section
set_option maxHeartbeats 2000000
set_option maxRecDepth 100000
theorem preempts_walk (p : Pl) (A : Option Addr) (n c : Nat) (S : List (List Int)) (x : Int) (w : World) (hp : PlIn w p) (hSl : S.length = n) (hnm : n ≤ maxLen) (hSr : ∀ r ∈ S, r.length ≤ maxLen ∧ ∀ k ∈ r, i64ok k) (hS : RelV w (.slice A n c) S) (hx : i64ok x) :
    Calls Try.prog 5 #[.agg (plV p), .slice A n c, .int .i64 x] w fun e w' => e = .returned (.bool true) ∧ Below w.heap.size w w' := by
  have hnot : ∀ (x : Bool) (w : World), (Op.unary .not (.bool x)).run Try.prog w = .ok (.bool (!x)) w := fun _ _ => rfl
  subst hSl
  obtain ⟨⟨ts, TA, tc, rs, rA, rc⟩, cores, untl⟩ := p
  have hb := (Below.refl w.heap.size w).alloc (Nat.le_refl _) (.cells (plV ⟨⟨ts, TA, tc, rs, rA, rc⟩, cores, untl⟩) 25)
  have hk := Blk.new w 25 (plV ⟨⟨ts, TA, tc, rs, rA, rc⟩, cores, untl⟩)
  have HB := Lib.hid hb
  have HK := Lib.hid hk
  have HPI := Lib.hid (hp.below hb)
  have HS := Lib.hid (hS.below hb)
  have HSR := Lib.hid hSr
  have HPV := Lib.hid (show plV ⟨⟨ts, TA, tc, rs, rA, rc⟩, cores, untl⟩ = #[.slice TA ts.length tc, .int .i64 cores, .slice rA rs.length rc, .int .i64 untl] from rfl)
  rw [HPV.out] at hk HB HPI HK HS ⊢
  clear hb hk hp hS hSr
  go_enter Try.func5, Try.ntmps5
  go_wp2_with fail
  (with_reducible refine (awake_any _).mono ?_)
  rintro e w1 ⟨rfl, hb1⟩
  have HB1 := Lib.hid (HB.out.trans (hb1.mono HB.out.size))
  have HK1 := Lib.hid (HK.out.below hb1)
  have HPI1 := Lib.hid (HPI.out.below hb1)
  have HS1 := Lib.hid (HS.out.below hb1)
  obtain ⟨b0, b1, b2, b3⟩ := HK1.out.four.1
  clear hb1 HS HPI HK
  by_cases hbig : 100 < S.length
  · have d1 : decide ((100 : Int) < (S.length : Int)) = true := by simp; omega
    go_wp2_with fail
    go_ret
    exact ⟨rfl, HB1.out⟩
  have d1 : decide ((100 : Int) < (S.length : Int)) = false := by simp; omega
  go_wp2_with fail
  go_loopw [7, 8, 25] (fun nv ev v wr => ∃ (i q : Nat), i ≤ S.length ∧ v = .int .i64 (i : Int) ∧ nv = .int .i64 ((SL.preF (S.take i) x).1 : Int) ∧ ev = .bool (SL.preF (S.take i) x).2.1 ∧ wr = w1.drewN q) (fun _ _ v _ => S.length - (intOf v).toNat)
  case atStart => exact ⟨0, 0, Nat.zero_le _, rfl, rfl, rfl, rfl⟩
  case round =>
    obtain ⟨i, q, hi, rfl, rfl, rfl, hwr⟩ := hrel
    have HWR := Lib.hid hwr
    have hle := SL.preF_le x (S.take i)
    rw [List.length_take] at hle
    by_cases hlt : i < S.length
    · have q0 : (i : Int) < (S.length : Int) := by omega
      obtain ⟨r, hr⟩ : ∃ r, S[i]? = some r := ⟨_, List.getElem?_eq_getElem hlt⟩
      obtain ⟨b, o, A', c', rfl, _, cr, hrow⟩ := relV_at HS1.out hr
      have d0 : wr.cell? ⟨b, o + i, none⟩ = some (.slice A' r.length c') := by rw [hwr]; exact cr
      have HC := Lib.hid (has_any r A' c' x wr (by rw [hwr]; exact hrow) (HSR.out r (List.mem_of_getElem? hr)).1)
      have HSS := Lib.hid (show SL.preF (S.take (i + 1)) x = SL.preStep x (SL.preF (S.take i) x) r by rw [SL.take_snoc hr, SL.preF_snoc])
      have HPR := Lib.hid (show (SL.preF (S.take i) x).2.1 = true → ∃ (j : Nat) (r' : List Int) (A'' : Option Addr) (c'' : Nat), i = j + 1 ∧ wr.cell? ⟨b, o + j, none⟩ = some (.slice A'' r'.length c'') ∧ Row wr A'' (r'.map (Value.int .i64)) ∧ r'.length ≤ maxLen ∧ (SL.preF (S.take i) x).2.2 = SL.inn r' x from fun he => by
        rcases SL.preF_last (S.take i) x with ⟨_, h⟩ | ⟨r', h1, h2, h3⟩
        · rw [h] at he; cases he
        · have hi0 : 0 < i := by
            rcases Nat.eq_zero_or_pos i with h | h
            · subst h; simp at h2
            · exact h
          obtain ⟨j, rfl⟩ : ∃ j, i = j + 1 := ⟨i - 1, by omega⟩
          rw [List.length_take, Nat.min_eq_left hi, Nat.add_sub_cancel, List.getElem?_take, if_pos (by omega)] at h1
          obtain ⟨b', o', A'', c'', e, _, cr', hrow'⟩ := relV_at HS1.out h1
          injection e with e
          injection e with e1 e2
          subst e1 e2
          exact ⟨j, r', A'', c'', rfl, by rw [hwr]; exact cr', by rw [hwr]; exact hrow', (HSR.out r' (List.mem_of_getElem? h1)).1, h3⟩)
      clear hr hrow cr hwr
      generalize SL.preF (S.take i) x = st at *
      obtain ⟨m, ea, la⟩ := st
      simp only at hle
      have z1 : IntKind.i64.wrap ((m : Int) + 1) = (m : Int) + 1 := IntWalk.i64_in _ (by omega)
      unfold SL.preStep at HSS
      simp only at HSS HPR
      go_wp2_with fail
      (with_reducible refine HC.out.mono ?_)
      rintro e w2 ⟨rfl, rfl⟩
      clear HC
      cases hn : SL.inn r x
      · have HS2 := HSS.out
        rw [hn] at HS2
        clear hn HPR HSS
        cases ea
        all_goals
          simp at HS2
          have HS3 := Lib.hid HS2
          clear HS2
          go_wp2_with fail
          exact ⟨⟨i + 1, q, hlt, by simp, by rw [HS3.out], by rw [HS3.out], HWR.out⟩, by simp [intOf]; omega⟩
      · cases ea
        · have HS2 := HSS.out
          rw [hn] at HS2
          clear hn HPR HSS
          simp at HS2
          have HS3 := Lib.hid HS2
          clear HS2
          go_wp2_with fail
          exact ⟨⟨i + 1, q, hlt, by simp, by rw [HS3.out], by rw [HS3.out], HWR.out⟩, by simp [intOf]; omega⟩
        · obtain ⟨j, r', A'', c'', rfl, cj, hrj, hlj, rfl⟩ := HPR.out rfl
          have HC2 := Lib.hid (has_any r' A'' c'' x w2 hrj hlj)
          have HS2 := HSS.out
          rw [hn] at HS2
          clear hn HPR HSS hrj
          have z2 : IntKind.i64.wrap (((j + 1 : Nat) : Int) - 1) = (j : Int) := by rw [show ((j + 1 : Nat) : Int) - 1 = (j : Int) from by omega]; exact IntWalk.i64_in _ (by omega)
          have z3 : ((j + 1 : Nat) : Int) - 1 = (j : Int) := by omega
          have q2 : (j : Int) < (S.length : Int) := by omega
          go_wp2_with fail
          (with_reducible refine HC2.out.mono ?_)
          rintro e w3 ⟨rfl, rfl⟩
          clear HC2
          cases hn : SL.inn r' x <;> rw [hn] at HS2
          all_goals
            clear hn
            simp at HS2
            have HS3 := Lib.hid HS2
            clear HS2
            go_wp2_with fail
            exact ⟨⟨j + 1 + 1, q, hlt, by simp, by first | (rw [HS3.out]; done) | (rw [HS3.out]; simp), by rw [HS3.out], HWR.out⟩, by simp [intOf]; omega⟩
    · have q0 : ¬ (i : Int) < (S.length : Int) := by omega
      have HE := Lib.hid (show S.take i = S from List.take_of_length_le (by omega))
      have hb2 : Below w1.heap.size w1 wr := by rw [hwr]; exact below_drewN (Below.refl _ _) q
      have HPI2 := Lib.hid (HPI1.out.below hb2)
      have HB2 := Lib.hid (HB1.out.trans (hb2.mono HB1.out.size))
      have HS2 := Lib.hid (HS1.out.below hb2)
      have HP := Lib.hid (preempt_any S x A S.length c wr HS2.out (by omega) (fun r hr => (HSR.out r hr).1))
      have HK2 := Lib.hid (HK1.out.below hb2)
      obtain ⟨c0, c1, c2, c3⟩ := HK2.out.four.1
      have e1 : (((SL.preF S x).1 : Int) != ((SL.preF S x).1 : Int)) = false := by simp
      rw [HE.out]
      clear hwr hb2
      go_wp2_with fail
      (with_reducible refine HP.out.mono ?_)
      rintro e w2 ⟨rfl, rfl⟩
      have HSM := Lib.hid (simulated_any ⟨⟨ts, TA, tc, rs, rA, rc⟩, cores, untl⟩ w2 HPI2.out)
      rw [HPV.out] at HSM
      clear HP HE
      go_wp2_with fail
      (with_reducible refine HSM.out.mono ?_)
      rintro e w3 ⟨hb3, h3⟩
      have HB3 := Lib.hid (HB2.out.trans (hb3.mono HB2.out.size))
      have HK3 := Lib.hid (HK2.out.below hb3)
      obtain ⟨k0, k1, k2, k3⟩ := HK3.out.four.1
      clear hb3 HSM
      rcases h3 with ⟨_, rfl⟩ | ⟨hok, gs, mv, rfl, hgs, hS, how⟩
      · go_wp2_with fail
        go_ret
        exact ⟨rfl, HB3.out⟩
      · obtain ⟨mA, mc, rfl⟩ := own_slice how
        have HO := Lib.hid (okP_of hok)
        obtain ⟨n, hn, hn1⟩ := HO.out.u
        simp only at hn
        subst hn
        rw [Int.toNat_natCast] at hS
        have R3 := Lib.hid (sched_rel hS)
        have HL3 := sched_len hS
        have HIL := Lib.hid (okP_ints HO.out)
        have ht8 : ts.length ≤ 8 := HO.out.t8
        generalize (simP ⟨⟨ts, TA, tc, rs, rA, rc⟩, cores, (n : Int)⟩).1 = S0 at *
        have hUl : (S0.map SL.ints).length = n := by rw [List.length_map]; exact HL3
        generalize S0.map SL.ints = U at *
        clear HL3 hS how hok
        have hmx : maxLen = 9223372036854775807 := rfl
        have HPP := Lib.hid (fun (k : Nat) (q : Nat) => preempt_any U (k : Int) (some ⟨gs, 0, none⟩) n n (w3.drewN q) R3.out (by omega) (fun r hr => by have := HIL.out r hr; omega))
        go_wp2_with fail
        go_loopw [71] (fun v wr => ∃ k q : Nat, k ≤ ts.length ∧ v = .int .i64 (k : Int) ∧ wr = w3.drewN q) (fun v _ => ts.length - (intOf v).toNat)
        case atStart => exact ⟨0, 0, Nat.zero_le _, rfl, rfl⟩
        case round =>
          obtain ⟨k, q, hk, rfl, hwr⟩ := hrel
          have HWR := Lib.hid hwr
          by_cases hlt : k < ts.length
          · have q1 : (k : Int) < (ts.length : Int) := by omega
            clear hwr
            go_wp2_with fail
            go_loopw [15, 76] (fun nv v wx => ∃ t : Nat, t ≤ n ∧ v = .int .i64 (t : Int) ∧ nv = .int .i64 (SL.runs (U.take t) k : Int) ∧ wx = wr) (fun _ v _ => n - (intOf v).toNat)
            case atStart => exact ⟨0, Nat.zero_le _, rfl, rfl, rfl⟩
            case round =>
              obtain ⟨t, ht, rfl, rfl, rfl⟩ := hrel
              have hrun : SL.runs (U.take t) k ≤ t := by
                unfold SL.runs
                exact Nat.le_trans List.countP_le_length (by simp; omega)
              by_cases htl : t < n
              · have q2 : (t : Int) < (n : Int) := by omega
                obtain ⟨r, hr⟩ : ∃ r, U[t]? = some r := ⟨_, List.getElem?_eq_getElem (by omega)⟩
                obtain ⟨b, o, A', c', e, _, cr, hrow⟩ := relV_at R3.out hr
                injection e with e
                injection e with e1 e2
                subst e1 e2
                rw [Nat.zero_add] at cr
                have d0 : wr.cell? ⟨gs, t, none⟩ = some (.slice A' r.length c') := by rw [HWR.out]; exact cr
                have hr8 := HIL.out r (List.mem_of_getElem? hr)
                have HC := Lib.hid (has_any r A' c' k wr (by rw [HWR.out]; exact hrow) (by omega))
                have HRS := Lib.hid (show SL.runs (U.take (t + 1)) k = SL.runs (U.take t) k + (if SL.inn r k then 1 else 0) by
                  rw [SL.take_snoc hr]; unfold SL.runs; rw [List.countP_append]; simp [List.countP_cons])
                clear hr hrow cr
                generalize SL.runs (U.take t) k = m at *
                go_wp2_with fail
                (with_reducible refine HC.out.mono ?_)
                rintro e w4 ⟨rfl, rfl⟩
                clear HC
                cases hn : SL.inn r k <;> rw [hn] at HRS
                · have HR2 := Lib.hid (show SL.runs (U.take (t + 1)) k = m by rw [HRS.out]; rfl)
                  clear hn HRS
                  go_wp2_with fail
                  exact ⟨⟨t + 1, htl, by simp, by rw [HR2.out], trivial⟩, by simp [intOf]; omega⟩
                · have HR2 := Lib.hid (show SL.runs (U.take (t + 1)) k = m + 1 by rw [HRS.out]; rfl)
                  clear hn HRS
                  go_wp2_with fail
                  exact ⟨⟨t + 1, htl, by simp, by rw [HR2.out]; simp, trivial⟩, by simp [intOf]; omega⟩
              · have q2 : ¬ (t : Int) < (n : Int) := by omega
                have HTU := Lib.hid (show U.take t = U from List.take_of_length_le (by omega))
                rw [HTU.out] at hrun ⊢
                have hpr := (SL.preF_runs k U).1
                have HP2 := Lib.hid (HPP.out k q)
                rw [← HWR.out] at HP2
                generalize (SL.preF U k).1 = a at *
                generalize SL.runs U k = m at *
                go_wp2_with fail
                (with_reducible refine HP2.out.mono ?_)
                rintro e w4 ⟨rfl, rfl⟩
                go_wp2_with fail
                exact ⟨⟨k + 1, q, hlt, by simp, HWR.out⟩, by simp [intOf]; omega⟩
          · have q1 : ¬ (k : Int) < (ts.length : Int) := by omega
            have HBE := Lib.hid (show Below w.heap.size w wr by rw [hwr]; exact below_drewN HB3.out q)
            clear hwr
            go_wp2_with fail
            go_ret
            exact ⟨rfl, HBE.out⟩
end
end Go.Proofs.Ytgfojgabobakdaa
