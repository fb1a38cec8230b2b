/- Numbers as digits in memory: shifts. -/
import Derived.Test.YtdlbokcndbbgnaaBgF
namespace Go.Proofs.Ytdlbokcndbbgnaa
open Go.RowKit Go.Maps Go.Sort
open BG (val dig)
/-- A new block of digits with a value. -/
def ShR (w w' : World) (n v : Nat) (e : Ending) : Prop := ∃ (g : Nat) (rs : List Nat), e = .returned (.slice (some ⟨g, 0, none⟩) n n) ∧ w.heap.size ≤ g ∧ Blk w' g 104 (dgC rs) ∧ rs.length = n ∧ BG.ok rs ∧ val rs = v ∧ Below w.heap.size w w'
theorem step_shl {r v q c s d t : Nat} (h : r + q * c = v * s) (ht : d * s + c = t) : (r + q * (t % BG.B)) + (q * BG.B) * (t / BG.B) = (v + q * d) * s := by
  have h1 := Nat.mod_add_div t BG.B
  have h2 : q * (t % BG.B) + (q * BG.B) * (t / BG.B) = q * t := by rw [Nat.mul_assoc, ← Nat.mul_add, h1]
  have h3 : q * t = q * d * s + q * c := by rw [← ht, Nat.mul_add, Nat.mul_assoc]
  rw [Nat.add_mul]
  omega
section
set_option maxHeartbeats 4000000
set_option maxRecDepth 100000
theorem shifted_any (x s : Nat) (hs : s ≤ 31) (A : Option Addr) (n c : Nat) (w : World) (hN : (dig x).length = n) (hr : DG w A (dig x)) (hl : n ≤ 100000) :
    Calls Try.prog 92 #[.slice A n c, .int .i64 (s : Int)] w fun e w' => ShR w w' (n + 1) (x * 2 ^ s) e := by
  have HR := Lib.hid hr
  have HN := Lib.hid hN
  have hmk : ∀ W : World, (Instr.makeSlice 48 (.int .i64 ((n : Int) + 1)) (.int .i64 ((n : Int) + 1))).run Try.prog W = .ok (.slice (some ⟨W.heap.size, 0, none⟩) (n + 1) (n + 1)) (W.alloc (.cells (dgC (List.replicate (n + 1) 0)) 104)) := fun W => make_u32 (n + 1) (by omega) W
  have z0 : IntKind.i64.wrap ((n : Int) + 1) = (n : Int) + 1 := IntWalk.i64_in _ (by omega)
  have hB : BG.B = 4294967296 := rfl
  have hp0 : 0 < 2 ^ s := Nat.pow_pos (by omega)
  have hp1 : 2 ^ s ≤ 2147483648 := Nat.pow_le_pow_right (show 0 < 2 by omega) hs
  have HK0 := Lib.hid (Blk.new w 104 (dgC (List.replicate (n + 1) 0)))
  have HB0 := Lib.hid ((Below.refl w.heap.size w).alloc (Nat.le_refl _) (.cells (dgC (List.replicate (n + 1) 0)) 104))
  clear hr hN
  go_enter Try.func92, Try.ntmps92
  go_wp2_with fail
  go_loopw [6, 15] (fun cv v wr => ∃ (i cy : Nat) (rs : List Nat), i ≤ n ∧ v = .int .i64 (i : Int) ∧ cv = .int .u64 (cy : Int) ∧ cy < 2 ^ s ∧ rs.length = n + 1 ∧ BG.ok rs ∧ val (rs.take i) + BG.B ^ i * cy = val ((dig x).take i) * 2 ^ s ∧ Blk wr w.heap.size 104 (dgC rs) ∧ Below w.heap.size w wr) (fun _ v _ => n - (intOf v).toNat)
  case atStart => exact ⟨0, 0, List.replicate (n + 1) 0, Nat.zero_le _, rfl, rfl, hp0, by simp, fun d hd => by rw [(List.mem_replicate.1 hd).2]; decide, by simp [val], HK0.out, HB0.out⟩
  case round =>
    obtain ⟨i, cy, rs, hi, rfl, rfl, hcy, hrl, hok, hval, hblk, hbel⟩ := hrel
    have HK := Lib.hid hblk
    have HB := Lib.hid hbel
    have HV := Lib.hid hval
    have HRL := Lib.hid hrl
    have HOK := Lib.hid hok
    have hbl := hblk.lt
    by_cases hin : i < n
    · have q1 : (i : Int) < (n : Int) := by omega
      obtain ⟨a, ha⟩ : ∃ a, (dig x)[i]? = some a := ⟨_, List.getElem?_eq_getElem (by rw [HN.out]; omega)⟩
      have haB := BG.ok_at (BG.ok_dig x) ha
      rw [hB] at haB
      obtain ⟨g, o, rfl, hg, c0⟩ := dg_at (HR.out.below hbel) ha
      have HA := Lib.hid ha
      have f0 := hblk.frozen i
      obtain ⟨r0, hr0⟩ : ∃ r0, rs[i]? = some r0 := ⟨_, List.getElem?_eq_getElem (by rw [hrl]; omega)⟩
      have k0 := dgC_cell hblk hr0
      have q2 : (i : Int) < (n : Int) + 1 := by omega
      have z2 : IntKind.i64.wrap ((i : Int) + 1) = (i : Int) + 1 := IntWalk.i64_in _ (by omega)
      have hor := or_shift s a cy (by omega) haB hcy
      obtain ⟨P, hP⟩ : ∃ P, P = a * 2 ^ s := ⟨_, rfl⟩
      have hPB : P + cy < 9223372036854775808 := by
        have h3 : a * 2 ^ s ≤ 4294967295 * 2147483648 := Nat.mul_le_mul (by omega) hp1
        omega
      have hct : (P + cy) / 4294967296 < 2 ^ s := by
        rw [Nat.div_lt_iff_lt_mul (by omega)]
        have h3 : (a + 1) * 2 ^ s ≤ 4294967296 * 2 ^ s := Nat.mul_le_mul_right _ haB
        rw [Nat.add_mul] at h3
        rw [Nat.mul_comm (2 ^ s)]
        omega
      have hz : IntKind.u64.wrap ((a : Int) * 2 ^ s) = (P : Int) := by
        rw [show (a : Int) * 2 ^ s = (P : Int) by rw [hP]; simp]
        exact IntWalk.u64_in _ (by omega)
      rw [← hP] at hor
      obtain ⟨T, hT⟩ : ∃ T, T = P + cy := ⟨_, rfl⟩
      rw [← hT] at hor hct hPB
      have hm : (T : Int) % 4294967296 = ((T % BG.B : Nat) : Int) := by rw [hB]; omega
      have HM := Lib.hid hm
      have HT := Lib.hid (show a * 2 ^ s + cy = T by rw [hT, hP])
      clear hblk hbel hval hrl hok ha hr0 hm hT hP
      go_wp2_with fail
      rw [HM.out]
      refine ⟨⟨i + 1, T / BG.B, rs.set i (T % BG.B), hin, by simp, by rw [hB]; simp, by rw [hB]; exact hct, by rw [List.length_set]; exact HRL.out, ok_set HOK.out (Nat.mod_lt _ BG.B_pos), ?_, dgC_put HK.out _ _, HB.out.setCell (p := ⟨w.heap.size, i, none⟩) (Nat.le_refl _) _⟩, by simp [intOf]; omega⟩
      rw [val_set (by rw [HRL.out]; omega), BG.val_take_succ HA.out, Nat.pow_succ]
      exact step_shl HV.out HT.out
    · have q1 : ¬ (i : Int) < (n : Int) := by omega
      have hie : i = n := by omega
      subst hie
      obtain ⟨r0, hr0⟩ : ∃ r0, rs[i]? = some r0 := ⟨_, List.getElem?_eq_getElem (by rw [hrl]; omega)⟩
      have k0 := dgC_cell hblk hr0
      have f0 := hblk.frozen i
      have q2 : (i : Int) < (i : Int) + 1 := by omega
      have z4 : (cy : Int) % 4294967296 = (cy : Int) := by omega
      have HVS := Lib.hid (show val (rs.set i cy) = x * 2 ^ s by
        have h1 := val_set (ds := rs) (i := i) (d := cy) (by rw [hrl]; omega)
        rw [BG.val_take_end (by rw [List.length_set, hrl]; exact Nat.le_refl _)] at h1
        rw [h1, hval, BG.val_take_end (by rw [HN.out]; exact Nat.le_refl _), BG.val_dig])
      have HPUT := Lib.hid (dgC_put hblk i cy)
      have HBE := Lib.hid (hbel.setCell (p := ⟨w.heap.size, i, none⟩) (Nat.le_refl _) (.int .u32 (cy : Int)))
      have HSO := Lib.hid (ok_set hok (i := i) (d := cy) (by rw [hB]; omega))
      clear hblk hbel hval hrl hok hr0
      go_wp2_with fail
      go_ret
      exact ⟨w.heap.size, rs.set i cy, rfl, Nat.le_refl _, HPUT.out, by rw [List.length_set]; exact HRL.out, HSO.out, HVS.out, HBE.out⟩
theorem unshifted_any (ds : List Nat) (hok : BG.ok ds) (s : Nat) (hs : s ≤ 31) (A : Option Addr) (n c : Nat) (w : World) (hN : ds.length = n) (hr : DG w A ds) (hl : n ≤ 100000) :
    Calls Try.prog 94 #[.slice A n c, .int .i64 (s : Int)] w fun e w' => ShR w w' n (val ds / 2 ^ s) e := by
  have HR := Lib.hid hr
  have HN := Lib.hid hN
  have HDK := Lib.hid hok
  have hmk : ∀ W : World, (Instr.makeSlice 48 (.int .i64 (n : Int)) (.int .i64 (n : Int))).run Try.prog W = .ok (.slice (some ⟨W.heap.size, 0, none⟩) n n) (W.alloc (.cells (dgC (List.replicate n 0)) 104)) := fun W => make_u32 n (by omega) W
  have hB : BG.B = 4294967296 := rfl
  have hp0 : 0 < 2 ^ s := Nat.pow_pos (by omega)
  have hp1 : 2 ^ s ≤ 2147483648 := Nat.pow_le_pow_right (show 0 < 2 by omega) hs
  have hBd : BG.B % 2 ^ s = 0 := by
    rw [show BG.B = 2 ^ (32 - s) * 2 ^ s by rw [← Nat.pow_add, show 32 - s + s = 32 by omega]; rfl, Nat.mul_mod_left]
  have HBD := Lib.hid hBd
  have HD1 := Lib.hid (show val ((List.replicate n 0).drop n) = val (ds.drop n) / 2 ^ s by
    have h1 : ds.drop n = [] := List.drop_eq_nil_of_le (by rw [HN.out]; exact Nat.le_refl _)
    have h2 : (List.replicate n 0).drop n = [] := List.drop_eq_nil_of_le (by simp)
    rw [h1, h2]; simp [val])
  have HK0 := Lib.hid (Blk.new w 104 (dgC (List.replicate n 0)))
  have HB0 := Lib.hid ((Below.refl w.heap.size w).alloc (Nat.le_refl _) (.cells (dgC (List.replicate n 0)) 104))
  clear hr hN hok hBd
  go_enter Try.func94, Try.ntmps94
  go_wp2_with fail
  go_loopw [6, 15] (fun rv v wr => ∃ (i r : Nat) (rs : List Nat), i ≤ n ∧ v = .int .i64 (i : Int) ∧ rv = .int .u64 (r : Int) ∧ r < 4294967296 ∧ (∃ D', val (ds.drop (n - i)) = r + BG.B * D') ∧ rs.length = n ∧ BG.ok rs ∧ val (rs.drop (n - i)) = val (ds.drop (n - i)) / 2 ^ s ∧ Blk wr w.heap.size 104 (dgC rs) ∧ Below w.heap.size w wr) (fun _ v _ => n - (intOf v).toNat)
  case atStart => exact ⟨0, 0, List.replicate n 0, Nat.zero_le _, rfl, rfl, by omega, ⟨0, by rw [Nat.sub_zero, List.drop_eq_nil_of_le (by rw [HN.out]; exact Nat.le_refl _)]; rfl⟩, by simp, fun d hd => by rw [(List.mem_replicate.1 hd).2]; decide, by rw [Nat.sub_zero]; exact HD1.out, HK0.out, HB0.out⟩
  case round =>
    obtain ⟨i, r, rs, hi, rfl, rfl, hrb, hD, hrl, hok, hval, hblk, hbel⟩ := hrel
    have HK := Lib.hid hblk
    have HB := Lib.hid hbel
    have HV := Lib.hid hval
    have HRL := Lib.hid hrl
    have HOK := Lib.hid hok
    have HD := Lib.hid hD
    have hbl := hblk.lt
    by_cases hin : i < n
    · obtain ⟨j, hj⟩ : ∃ j, n = i + 1 + j := ⟨n - i - 1, by omega⟩
      have q1 : (i : Int) < (n : Int) := by omega
      obtain ⟨a, ha⟩ : ∃ a, ds[j]? = some a := ⟨_, List.getElem?_eq_getElem (by rw [HN.out]; omega)⟩
      have haB := BG.ok_at HDK.out ha
      rw [hB] at haB
      obtain ⟨g, o, rfl, hg, c0w⟩ := dg_at HR.out ha
      have c0 := (hbel.cell (p := ⟨g, o + j, none⟩) hg).trans c0w
      have hne : g ≠ w.heap.size := by omega
      have hne2 : w.heap.size ≠ g := by omega
      have hgw : g < wr.heap.size := Nat.lt_of_lt_of_le hg hbel.size
      clear c0w
      have HA := Lib.hid ha
      have f0 := hblk.frozen j
      obtain ⟨r0, hr0⟩ : ∃ r0, rs[j]? = some r0 := ⟨_, List.getElem?_eq_getElem (by rw [hrl]; omega)⟩
      have k0 := dgC_cell hblk hr0
      have z0 : IntKind.i64.wrap ((n : Int) - 1) = (n : Int) - 1 := IntWalk.i64_in _ (by omega)
      have z1 : IntKind.i64.wrap ((n : Int) - 1 - (i : Int)) = (j : Int) := by rw [show (n : Int) - 1 - (i : Int) = (j : Int) by omega]; exact IntWalk.i64_in _ (by omega)
      have q2 : (j : Int) < (n : Int) := by omega
      have z2 : IntKind.i64.wrap ((i : Int) + 1) = (i : Int) + 1 := IntWalk.i64_in _ (by omega)
      have e1 : n - i = j + 1 := by omega
      have e2 : n - (i + 1) = j := by omega
      have HE := Lib.hid (And.intro e1 e2)
      have HJ := Lib.hid hj
      have hor := or32 r a hrb haB
      have hstep : val (ds.drop j) / 2 ^ s = ((r * 4294967296 + a) / 2 ^ s) % BG.B + BG.B * val (rs.drop (j + 1)) := by
        obtain ⟨D', hD'⟩ := hD
        rw [e1] at hD' hval
        rw [BG.drop_cons ha, hval]
        simp only [val]
        exact BG.unshift_step hp0 HBD.out (by rw [hB]; exact haB) hD'
      have HST := Lib.hid hstep
      obtain ⟨T, hT⟩ : ∃ T, T = r * 4294967296 + a := ⟨_, rfl⟩
      have hTB : T < 18446744073709551616 := by omega
      rw [← hT] at hor HST
      have hQ0 : T / 2 ^ s ≤ T := Nat.div_le_self _ _
      have hdv : (T : Int) / 2 ^ s = ((T / 2 ^ s : Nat) : Int) := by simp
      have hdv2 : (T : Int).tdiv (2 ^ s) = ((T / 2 ^ s : Nat) : Int) := by
        rw [show ((2 : Int) ^ s) = ((2 ^ s : Nat) : Int) by simp]; rfl
      generalize T / 2 ^ s = Q at *
      have hm : (Q : Int) % 4294967296 = ((Q % BG.B : Nat) : Int) := by rw [hB]; omega
      have HM := Lib.hid hm
      clear hblk hbel hval hrl hok ha hr0 hj e1 e2 hT hm hstep hD
      go_wp2_with fail
      rw [HM.out]
      refine ⟨⟨i + 1, a, rs.set j (Q % BG.B), hin, by simp, rfl, haB, ⟨val (ds.drop (j + 1)), by rw [HE.out.2, BG.drop_cons HA.out]; rfl⟩, by rw [List.length_set]; exact HRL.out, ok_set HOK.out (Nat.mod_lt _ BG.B_pos), ?_, dgC_put HK.out _ _, HB.out.setCell (p := ⟨w.heap.size, j, none⟩) (Nat.le_refl _) _⟩, by simp [intOf]; omega⟩
      rw [HE.out.2, HST.out, BG.drop_cons (l := rs.set j (Q % BG.B)) (d := Q % BG.B) (by rw [List.getElem?_set_self (by rw [HRL.out]; have := HJ.out; omega)]), List.drop_set_of_lt (by omega)]
      rfl
    · have q1 : ¬ (i : Int) < (n : Int) := by omega
      have hie : i = n := by omega
      subst hie
      have HVS := Lib.hid (show val rs = val ds / 2 ^ s by rw [Nat.sub_self, List.drop_zero, List.drop_zero] at hval; exact hval)
      clear hblk hbel hval hrl hok hD
      go_wp2_with fail
      go_ret
      exact ⟨w.heap.size, rs, rfl, Nat.le_refl _, HK.out, HRL.out, HOK.out, HVS.out, HB.out⟩
end
end Go.Proofs.Ytdlbokcndbbgnaa
