/- Numbers as digits in memory: differences. -/
import Derived.Test.YtdlbokcndbbgnaaBgB
namespace Go.Proofs.Ytdlbokcndbbgnaa
open Go.RowKit Go.Maps
open BG (val dig)
theorem u64_mod (x : Int) : IntKind.u64.wrap x = x % 18446744073709551616 := by
  simp [IntKind.wrap, IntKind.bits, IntKind.signed]
theorem sub_step {a b bo : Nat} (ha : a < 4294967296) (hb : b < 4294967296) (hbo : bo ≤ 1) : ∃ t1 t : Nat, IntKind.u64.wrap ((a : Int) - (bo : Int)) = (t1 : Int) ∧ IntKind.u64.wrap ((t1 : Int) - (b : Int)) = (t : Int) ∧
    t % 4294967296 + bo + b = a + 4294967296 * (t / 9223372036854775808) ∧ t / 9223372036854775808 ≤ 1 ∧ (b = 0 → t = t1) := by
  refine ⟨(IntKind.u64.wrap ((a : Int) - (bo : Int))).toNat, (IntKind.u64.wrap (((IntKind.u64.wrap ((a : Int) - (bo : Int))).toNat : Int) - (b : Int))).toNat, ?_, ?_, ?_, ?_, ?_⟩
  all_goals
    simp only [u64_mod]
    omega
theorem step_diff {r va vb q a b d bo bo' : Nat} (h : r + vb = va + q * bo) (hd : d + bo + b = a + 4294967296 * bo') : (r + q * d) + (vb + q * b) = (va + q * a) + (q * BG.B) * bo' := by
  have h1 := congrArg (q * ·) hd
  simp only [Nat.mul_add] at h1
  rw [Nat.mul_assoc, show BG.B = 4294967296 from rfl]
  omega
section
set_option maxHeartbeats 4000000
set_option maxRecDepth 100000
theorem difference_any (x y : Nat) (hyx : y ≤ x) (A A' : Option Addr) (n c n' c' : Nat) (w : World) (hN : (dig x).length = n) (hN' : (dig y).length = n') (hr : DG w A (dig x)) (hr' : DG w A' (dig y)) (hl : n ≤ 100000) :
    Calls Try.prog 54 #[.slice A n c, .slice A' n' c'] w fun e w' => ∃ A'' c'', e = .returned (.slice A'' (dig (x - y)).length c'') ∧ DG w' A'' (dig (x - y)) ∧ (dig (x - y)).length ≤ c'' ∧ Below w.heap.size w w' := by
  have HR := Lib.hid hr
  have HR' := Lib.hid hr'
  have HN := Lib.hid hN
  have HN' := Lib.hid hN'
  have HYX := Lib.hid hyx
  have hnn : n' ≤ n := by
    rw [← hN, ← hN', BG.dig_len_iff]
    have := BG.val_lt (BG.ok_dig x)
    rw [BG.val_dig] at this
    omega
  have hmk : ∀ W : World, (Instr.makeSlice 48 (.int .i64 (n : Int)) (.int .i64 (n : Int))).run Try.prog W = .ok (.slice (some ⟨W.heap.size, 0, none⟩) n n) (W.alloc (.cells (dgC (List.replicate n 0)) 104)) := fun W => make_u32 n (by omega) W
  have hB : BG.B = 4294967296 := rfl
  have HK0 := Lib.hid (Blk.new w 104 (dgC (List.replicate n 0)))
  have HB0 := Lib.hid ((Below.refl w.heap.size w).alloc (Nat.le_refl _) (.cells (dgC (List.replicate n 0)) 104))
  clear hr hr' hN hN' hyx
  go_enter Try.func54, Try.ntmps54
  go_wp2_with fail
  go_loopw [6, 14] (fun cv v wr => ∃ (i cy : Nat) (rs : List Nat), i ≤ n ∧ v = .int .i64 (i : Int) ∧ cv = .int .u64 (cy : Int) ∧ cy ≤ 1 ∧ rs.length = n ∧ BG.ok rs ∧ val (rs.take i) + val ((dig y).take i) = val ((dig x).take i) + BG.B ^ i * cy ∧ Blk wr w.heap.size 104 (dgC rs) ∧ Below w.heap.size w wr) (fun _ v _ => n - (intOf v).toNat)
  case atStart => exact ⟨0, 0, List.replicate n 0, Nat.zero_le _, rfl, rfl, by omega, by simp, fun d hd => by rw [(List.mem_replicate.1 hd).2]; decide, by simp [val], HK0.out, HB0.out⟩
  case round =>
    obtain ⟨i, cy, rs, hi, rfl, rfl, hcy, hrl, hok, hval, hblk, hbel⟩ := hrel
    have HK := Lib.hid hblk
    have HB := Lib.hid hbel
    have HV := Lib.hid hval
    have HRL := Lib.hid hrl
    have HOK := Lib.hid hok
    have hbl := hblk.lt
    by_cases hin : i < n
    · have q1 : (i : Int) < (n : Int) := by omega
      obtain ⟨a, ha⟩ : ∃ a, (dig x)[i]? = some a := ⟨_, List.getElem?_eq_getElem (by rw [HN.out]; omega)⟩
      have haB := BG.ok_at (BG.ok_dig x) ha
      rw [hB] at haB
      obtain ⟨g, o, rfl, hg, c0⟩ := dg_at (HR.out.below hbel) ha
      have HA := Lib.hid ha
      have f0 := hblk.frozen i
      obtain ⟨r0, hr0⟩ : ∃ r0, rs[i]? = some r0 := ⟨_, List.getElem?_eq_getElem (by rw [hrl]; omega)⟩
      have k0 := dgC_cell hblk hr0
      have z2 : IntKind.i64.wrap ((i : Int) + 1) = (i : Int) + 1 := IntWalk.i64_in _ (by omega)
      clear hblk hbel hval hrl hok ha hr0
      by_cases hin2 : i < n'
      · have q3 : (i : Int) < (n' : Int) := by omega
        obtain ⟨b, hb⟩ : ∃ b, (dig y)[i]? = some b := ⟨_, List.getElem?_eq_getElem (by rw [HN'.out]; omega)⟩
        have hbB := BG.ok_at (BG.ok_dig y) hb
        rw [hB] at hbB
        obtain ⟨g', o', rfl, hg', c0'⟩ := dg_at (HR'.out.below HB.out) hb
        have HBB := Lib.hid hb
        obtain ⟨t1, t, z1, z3, hs1, hs2, _⟩ := sub_step haB hbB hcy
        have hm : (t : Int) % 4294967296 = ((t % BG.B : Nat) : Int) := by rw [hB]; omega
        have HM := Lib.hid hm
        have HS := Lib.hid hs1
        clear hb hm hs1
        go_wp2_with fail
        rw [HM.out]
        refine ⟨⟨i + 1, t / 9223372036854775808, rs.set i (t % BG.B), hin, by simp, by simp, hs2, by rw [List.length_set]; exact HRL.out, ok_set HOK.out (Nat.mod_lt _ BG.B_pos), ?_, dgC_put HK.out _ _, HB.out.setCell (p := ⟨w.heap.size, i, none⟩) (Nat.le_refl _) _⟩, by simp [intOf]; omega⟩
        rw [val_set (by rw [HRL.out]; omega), BG.val_take_succ HA.out, BG.val_take_succ HBB.out, Nat.pow_succ]
        exact step_diff HV.out HS.out
      · have q3 : ¬ (i : Int) < (n' : Int) := by omega
        obtain ⟨t1, t, z1, _, hs1, hs2, ht⟩ := sub_step (b := 0) haB (by omega) hcy
        have ht := ht rfl
        subst ht
        have hm : (t : Int) % 4294967296 = ((t % BG.B : Nat) : Int) := by rw [hB]; omega
        have HM := Lib.hid hm
        have HS := Lib.hid hs1
        clear hm hs1
        go_wp2_with fail
        rw [HM.out]
        refine ⟨⟨i + 1, t / 9223372036854775808, rs.set i (t % BG.B), hin, by simp, by simp, hs2, by rw [List.length_set]; exact HRL.out, ok_set HOK.out (Nat.mod_lt _ BG.B_pos), ?_, dgC_put HK.out _ _, HB.out.setCell (p := ⟨w.heap.size, i, none⟩) (Nat.le_refl _) _⟩, by simp [intOf]; omega⟩
        have hy : (dig y).take (i + 1) = (dig y).take i := by rw [BG.val_take_end (by rw [HN'.out]; omega), BG.val_take_end (by rw [HN'.out]; omega)]
        rw [val_set (by rw [HRL.out]; omega), BG.val_take_succ HA.out, hy, Nat.pow_succ]
        have := step_diff (q := BG.B ^ i) HV.out HS.out
        rw [Nat.mul_zero, Nat.add_zero] at this
        exact this
    · have q1 : ¬ (i : Int) < (n : Int) := by omega
      have hie : i = n := by omega
      subst hie
      have HVS := Lib.hid (show val rs = x - y by
        rw [BG.val_take_end (by rw [hrl]; exact Nat.le_refl _), BG.val_take_end (by rw [HN'.out]; omega), BG.val_take_end (by rw [HN.out]; exact Nat.le_refl _), BG.val_dig, BG.val_dig] at hval
        have h1 := BG.val_lt hok
        rw [hrl] at h1
        have h2 := HYX.out
        rcases Nat.eq_zero_or_pos cy with h0 | h0
        · rw [h0, Nat.mul_zero] at hval; omega
        · have : cy = 1 := by omega
          rw [this, Nat.mul_one] at hval; omega)
      have HT := Lib.hid (trim_any rs (some ⟨w.heap.size, 0, none⟩) i i wr hrl (dgC_row hblk) hok (by omega) (Nat.le_refl _))
      have HRW := Lib.hid (dgC_row hblk)
      clear hblk hbel hval hrl hok
      go_wp2_with fail
      refine HT.out.mono ?_
      rintro e w2 ⟨A2, c2, rfl, hr2, hc2, rfl⟩
      rw [HVS.out] at hr2 hc2 ⊢
      have HR2 := Lib.hid (hr2 _ HRW.out)
      have HC2 := Lib.hid hc2
      clear hr2 hc2 HT
      go_wp2_with fail
      go_ret
      exact ⟨A2, c2, rfl, HR2.out, HC2.out, HB.out⟩
theorem val_zero_tail {ds : List Nat} {k : Nat} (hz : ∀ i, k ≤ i → i < ds.length → ds[i]? = some 0) : val ds = val (ds.take k) := by
  by_cases h : k ≤ ds.length
  · rw [BG.val_split ds k h, BG.val_zeros (l := ds.drop k) fun d hd => ?_]
    · omega
    · obtain ⟨j, hj⟩ := List.mem_iff_getElem?.1 hd
      rw [List.getElem?_drop] at hj
      rw [hz (k + j) (by omega) (List.getElem?_eq_some_iff.1 hj).1] at hj
      injection hj with hj; exact hj.symm
  · rw [BG.val_take_end (by omega)]
theorem mul_bound {a b u c : Nat} (ha : a < 4294967296) (hb : b < 4294967296) (hu : u < 4294967296) (hc : c < 4294967296) : a * b ≤ 18446744065119617025 ∧ (a * b + u + c) / 4294967296 < 4294967296 := by
  have h : a * b ≤ 4294967295 * 4294967295 := Nat.mul_le_mul (by omega) (by omega)
  omega
theorem product_any (x y : Nat) (A A' : Option Addr) (n c n' c' : Nat) (w : World) (hN : (dig x).length = n) (hN' : (dig y).length = n') (hr : DG w A (dig x)) (hr' : DG w A' (dig y)) (hl : n ≤ 100000) (hl' : n' ≤ 100000) :
    Calls Try.prog 51 #[.slice A n c, .slice A' n' c'] w fun e w' => ∃ A'' c'', e = .returned (.slice A'' (dig (x * y)).length c'') ∧ DG w' A'' (dig (x * y)) ∧ (dig (x * y)).length ≤ c'' ∧ Below w.heap.size w w' := by
  have HR := Lib.hid hr
  have HR' := Lib.hid hr'
  have HN := Lib.hid hN
  have HN' := Lib.hid hN'
  have hmk : ∀ W : World, (Instr.makeSlice 48 (.int .i64 ((n : Int) + (n' : Int))) (.int .i64 ((n : Int) + (n' : Int)))).run Try.prog W = .ok (.slice (some ⟨W.heap.size, 0, none⟩) (n + n') (n + n')) (W.alloc (.cells (dgC (List.replicate (n + n') 0)) 104)) := fun W => make_u32 (n + n') (by omega) W
  have z0 : IntKind.i64.wrap ((n : Int) + (n' : Int)) = (n : Int) + (n' : Int) := IntWalk.i64_in _ (by omega)
  have hB : BG.B = 4294967296 := rfl
  have hzero : n = 0 ∨ n' = 0 → x * y = 0 := fun h => by
    rcases h with h | h
    · have := BG.val_dig x
      rw [List.length_eq_zero_iff.1 (hN.trans h)] at this
      rw [← this]; simp [val]
    · have := BG.val_dig y
      rw [List.length_eq_zero_iff.1 (hN'.trans h)] at this
      rw [← this]; simp [val]
  have HZ := Lib.hid hzero
  clear hr hr' hN hN' hzero
  by_cases h0 : n = 0
  · have HE := Lib.hid (HZ.out (.inl h0))
    subst h0
    clear HZ hmk z0
    go_enter Try.func51, Try.ntmps51
    go_wp2_with fail
    go_ret
    rw [HE.out, BG.dig_zero]
    exact ⟨none, 0, rfl, DG.nil _ _, Nat.le_refl _, Below.refl _ _⟩
  by_cases h1 : n' = 0
  · have HE := Lib.hid (HZ.out (.inr h1))
    subst h1
    have e0 : ((n : Int) == 0) = false := by simp; omega
    clear HZ hmk z0
    go_enter Try.func51, Try.ntmps51
    go_wp2_with fail
    go_ret
    rw [HE.out, BG.dig_zero]
    exact ⟨none, 0, rfl, DG.nil _ _, Nat.le_refl _, Below.refl _ _⟩
  have e0 : ((n : Int) == 0) = false := by simp; omega
  have e1 : ((n' : Int) == 0) = false := by simp; omega
  have HK0 := Lib.hid (Blk.new w 104 (dgC (List.replicate (n + n') 0)))
  have HB0 := Lib.hid ((Below.refl w.heap.size w).alloc (Nat.le_refl _) (.cells (dgC (List.replicate (n + n') 0)) 104))
  clear HZ h0 h1
  go_enter Try.func51, Try.ntmps51
  go_wp2_with fail
  clear hmk e0 e1 z0
  go_loopw [26] (fun v wr => ∃ (i : Nat) (rs : List Nat), i ≤ n ∧ v = .int .i64 (i : Int) ∧ rs.length = n + n' ∧ BG.ok rs ∧ val rs = val ((dig x).take i) * y ∧ (∀ k, i + n' ≤ k → k < n + n' → rs[k]? = some 0) ∧ Blk wr w.heap.size 104 (dgC rs) ∧ Below w.heap.size w wr) (fun v _ => n - (intOf v).toNat)
  case atStart => exact ⟨0, List.replicate (n + n') 0, Nat.zero_le _, rfl, by simp, fun d hd => by rw [(List.mem_replicate.1 hd).2]; decide, by rw [BG.val_zeros (fun d hd => (List.mem_replicate.1 hd).2)]; simp [val], fun k _ hk => by rw [List.getElem?_replicate, if_pos hk], HK0.out, HB0.out⟩
  case round =>
    obtain ⟨i, rs, hi, rfl, hrl, hok, hval, hzz, hblk, hbel⟩ := hrel
    have HK := Lib.hid hblk
    have HB := Lib.hid hbel
    have HV := Lib.hid hval
    have HRL := Lib.hid hrl
    have HOK := Lib.hid hok
    have HZZ := Lib.hid hzz
    have hbl := hblk.lt
    by_cases hin : i < n
    · have q1 : (i : Int) < (n : Int) := by omega
      obtain ⟨a, ha⟩ : ∃ a, (dig x)[i]? = some a := ⟨_, List.getElem?_eq_getElem (by rw [HN.out]; omega)⟩
      have haB := BG.ok_at (BG.ok_dig x) ha
      rw [hB] at haB
      have HA := Lib.hid ha
      clear hblk hbel hval hrl hok ha hzz
      go_wp2_with fail
      obtain ⟨wo, hwo⟩ : ∃ wo, wo = wr := ⟨_, rfl⟩
      rw [← hwo] at HK HB hbl ⊢
      clear hwo
      go_loopw [7, 31] (fun cv v wr => ∃ (j cy : Nat) (ss : List Nat), j ≤ n' ∧ v = .int .i64 (j : Int) ∧ cv = .int .u64 (cy : Int) ∧ cy < 4294967296 ∧ ss.length = n + n' ∧ BG.ok ss ∧ val (ss.take (i + j)) + BG.B ^ (i + j) * cy = val (rs.take (i + j)) + a * (BG.B ^ i * val ((dig y).take j)) ∧ (∀ k, i + j ≤ k → ss[k]? = rs[k]?) ∧ Blk wr w.heap.size 104 (dgC ss) ∧ Below w.heap.size w wr) (fun _ v _ => n' - (intOf v).toNat)
      case atStart => exact ⟨0, 0, rs, Nat.zero_le _, rfl, rfl, by omega, HRL.out, HOK.out, by simp [val], fun _ _ => rfl, HK.out, HB.out⟩
      case round =>
        obtain ⟨j, cy, ss, hj, rfl, rfl, hcy, hsl, hsok, hsval, hskeep, hsblk, hsbel⟩ := hrel
        have HSK := Lib.hid hsblk
        have HSB := Lib.hid hsbel
        have HSV := Lib.hid hsval
        have HSL := Lib.hid hsl
        have HSOK := Lib.hid hsok
        have HKP := Lib.hid hskeep
        have hsbl := hsblk.lt
        by_cases hjn : j < n'
        · have q2 : (j : Int) < (n' : Int) := by omega
          obtain ⟨b, hb⟩ : ∃ b, (dig y)[j]? = some b := ⟨_, List.getElem?_eq_getElem (by rw [HN'.out]; omega)⟩
          have hbB := BG.ok_at (BG.ok_dig y) hb
          rw [hB] at hbB
          obtain ⟨u, hu⟩ : ∃ u, ss[i + j]? = some u := ⟨_, List.getElem?_eq_getElem (by rw [hsl]; omega)⟩
          have huB := BG.ok_at hsok hu
          rw [hB] at huB
          obtain ⟨g, o, rfl, hg, c0⟩ := dg_at (HR.out.below hsbel) HA.out
          obtain ⟨g', o', rfl, hg', c0'⟩ := dg_at (HR'.out.below hsbel) hb
          have k0 := dgC_cell hsblk hu
          have f0 := hsblk.frozen (i + j)
          have HBB := Lib.hid hb
          have HU := Lib.hid hu
          obtain ⟨hab, hct⟩ := mul_bound haB hbB huB hcy
          have HCT := Lib.hid hct
          have z1 : IntKind.i64.wrap ((i : Int) + (j : Int)) = (i : Int) + (j : Int) := IntWalk.i64_in _ (by omega)
          have q3 : (i : Int) + (j : Int) < (n : Int) + (n' : Int) := by omega
          have q4 : (0 : Int) ≤ (i : Int) + (j : Int) := by omega
          obtain ⟨p, hp⟩ : ∃ p, p = a * b := ⟨_, rfl⟩
          rw [← hp] at hab hct
          have z2 : IntKind.u64.wrap ((a : Int) * (b : Int)) = (p : Int) := by rw [show (a : Int) * (b : Int) = (p : Int) by rw [hp]; exact (Int.natCast_mul a b).symm]; exact IntWalk.u64_in _ (by omega)
          have z3 : IntKind.u64.wrap ((p : Int) + (u : Int)) = ((p + u : Nat) : Int) := by rw [show (p : Int) + (u : Int) = ((p + u : Nat) : Int) by omega]; exact IntWalk.u64_in _ (by omega)
          have z4 : IntKind.u64.wrap (((p + u : Nat) : Int) + (cy : Int)) = ((p + u + cy : Nat) : Int) := by rw [show ((p + u : Nat) : Int) + (cy : Int) = ((p + u + cy : Nat) : Int) by omega]; exact IntWalk.u64_in _ (by omega)
          have z5 : IntKind.i64.wrap ((j : Int) + 1) = (j : Int) + 1 := IntWalk.i64_in _ (by omega)
          have hm : ((p : Int) + (u : Int) + (cy : Int)) % 4294967296 = (((p + u + cy) % BG.B : Nat) : Int) := by rw [hB]; omega
          have HM := Lib.hid hm
          have HP := Lib.hid hp
          clear hsblk hsbel hsval hsl hsok hskeep hb hu hm hp hct
          go_wp2_with fail
          go_quiet (fail)
          have HSK2 := Lib.hid (HSK.out.drewN nq)
          have HSB2 := Lib.hid (below_drewN HSB.out nq)
          have k1 := dgC_cell HSK2.out HU.out
          have f1 := HSK2.out.frozen (i + j)
          have hsbl2 := HSK2.out.lt
          clear k0 f0 c0 c0' HSK HSB hsbl
          generalize wr.drewN nq = w2 at *
          go_wp2_with fail
          rw [HM.out]
          refine ⟨⟨j + 1, (p + u + cy) / BG.B, ss.set (i + j) ((p + u + cy) % BG.B), hjn, by simp, by rw [hB]; simp, by rw [hB, HP.out]; exact HCT.out, by rw [List.length_set]; exact HSL.out, ok_set HSOK.out (Nat.mod_lt _ BG.B_pos), ?_, fun k hk => ?_, dgC_put HSK2.out _ _, HSB2.out.setCell (p := ⟨w.heap.size, i + j, none⟩) (Nat.le_refl _) _⟩, by simp [intOf]; omega⟩
          · rw [← Nat.add_assoc, val_set (by rw [HSL.out]; omega), BG.val_take_succ HBB.out]
            have hru : rs[i + j]? = some u := by rw [← HKP.out (i + j) (Nat.le_refl _)]; exact HU.out
            rw [BG.val_take_succ hru, Nat.pow_succ, Nat.mul_add (BG.B ^ i), ← Nat.mul_assoc (BG.B ^ i) (BG.B ^ j), ← Nat.pow_add]
            exact BG.step_mul HSV.out (by rw [HP.out]) rfl
          · rw [List.getElem?_set_ne (by omega)]
            exact HKP.out k (by omega)
        · have q2 : ¬ (j : Int) < (n' : Int) := by omega
          have hje : j = n' := by omega
          subst hje
          obtain ⟨r0, hr0⟩ : ∃ r0, ss[i + j]? = some r0 := ⟨_, List.getElem?_eq_getElem (by rw [hsl]; omega)⟩
          have k0 := dgC_cell hsblk hr0
          have f0 := hsblk.frozen (i + j)
          have z1 : IntKind.i64.wrap ((i : Int) + (j : Int)) = (i : Int) + (j : Int) := IntWalk.i64_in _ (by omega)
          have q3 : (i : Int) + (j : Int) < (n : Int) + (j : Int) := by omega
          have q4 : (0 : Int) ≤ (i : Int) + (j : Int) := by omega
          have z5 : IntKind.i64.wrap ((i : Int) + 1) = (i : Int) + 1 := IntWalk.i64_in _ (by omega)
          have z6 : (cy : Int) % 4294967296 = (cy : Int) := by omega
          have hfin : val (ss.set (i + j) cy) = val ((dig x).take (i + 1)) * y := by
            have h1 := val_zero_tail (ds := ss.set (i + j) cy) (k := i + j + 1) (fun k h1 h2 => by
              rw [List.length_set, hsl] at h2
              rw [List.getElem?_set_ne (by omega), HKP.out k (by omega)]
              exact HZZ.out k (by omega) h2)
            rw [h1, val_set (by rw [hsl]; omega), hsval, BG.val_take_succ HA.out]
            have h2 := val_zero_tail (ds := rs) (k := i + j) (fun k h1 h2 => HZZ.out k h1 (by rw [← HRL.out]; exact h2))
            rw [← h2, HV.out, BG.val_take_end (l := dig y) (by rw [HN'.out]; exact Nat.le_refl _), BG.val_dig, Nat.add_mul, ← Nat.mul_assoc a, Nat.mul_comm a]
          have HF := Lib.hid hfin
          have HPUT := Lib.hid (dgC_put hsblk (i + j) cy)
          have HBE := Lib.hid (hsbel.setCell (p := ⟨w.heap.size, i + j, none⟩) (Nat.le_refl _) (.int .u32 (cy : Int)))
          have HST := Lib.hid hsl
          have HSO := Lib.hid (ok_set hsok (i := i + j) (d := cy) (by rw [hB]; exact hcy))
          clear hsblk hsbel hsval hsl hsok hskeep hr0 hfin HSK HSB
          go_wp2_with fail
          refine ⟨⟨i + 1, ss.set (i + j) cy, hin, by simp, by rw [List.length_set]; exact HST.out, HSO.out, HF.out, fun k h1 h2 => ?_, HPUT.out, HBE.out⟩, by simp [intOf]; omega⟩
          rw [List.getElem?_set_ne (by omega), HKP.out k (by omega)]
          exact HZZ.out k (by omega) h2
    · have q1 : ¬ (i : Int) < (n : Int) := by omega
      have hie : i = n := by omega
      subst hie
      have HVS := Lib.hid (show val rs = x * y by rw [hval, BG.val_take_end (by rw [HN.out]; exact Nat.le_refl _), BG.val_dig])
      have HT := Lib.hid (trim_any rs (some ⟨w.heap.size, 0, none⟩) (i + n') (i + n') wr hrl (dgC_row hblk) hok (by omega) (Nat.le_refl _))
      have HRW := Lib.hid (dgC_row hblk)
      clear hblk hbel hval hrl hok hzz
      go_wp2_with fail
      refine HT.out.mono ?_
      rintro e w2 ⟨A2, c2, rfl, hr2, hc2, rfl⟩
      rw [HVS.out] at hr2 hc2 ⊢
      have HR2 := Lib.hid (hr2 _ HRW.out)
      have HC2 := Lib.hid hc2
      clear hr2 hc2 HT
      go_wp2_with fail
      go_ret
      exact ⟨A2, c2, rfl, HR2.out, HC2.out, HB.out⟩
end
end Go.Proofs.Ytdlbokcndbbgnaa
