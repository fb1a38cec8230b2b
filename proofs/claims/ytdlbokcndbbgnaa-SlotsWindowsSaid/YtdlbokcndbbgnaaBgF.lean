/- Numbers as digits in memory: division by a digit, shifts. -/
import Derived.Test.YtdlbokcndbbgnaaBgE
import Derived.Laws.Bits64b
namespace Go.Proofs.Ytdlbokcndbbgnaa
open Go.RowKit Go.Maps Go.Sort
open BG (val dig)
theorem or_shift (k r a : Nat) (hk : k ≤ 32) (hr : r < 4294967296) (ha : a < 2 ^ k) : bits .or .u64 ((r * 2 ^ k : Nat) : Int) (a : Int) = ((r * 2 ^ k + a : Nat) : Int) := by
  have h2 : 2 ^ k ≤ 4294967296 := Nat.pow_le_pow_right (show 0 < 2 by omega) hk
  have h3 : r * 2 ^ k ≤ 4294967295 * 4294967296 := Nat.mul_le_mul (by omega) h2
  rw [bits_or_u64_nat _ _ (by omega) (by omega), ← Nat.shiftLeft_eq, ← Nat.shiftLeft_add_eq_or_of_lt ha]
theorem or32 (r a : Nat) (hr : r < 4294967296) (ha : a < 4294967296) : bits .or .u64 ((r : Int) * 4294967296) (a : Int) = ((r * 4294967296 + a : Nat) : Int) := by
  have := or_shift 32 r a (by omega) hr ha
  rw [← this]
  congr 1
section
set_option maxHeartbeats 4000000
set_option maxRecDepth 100000
theorem divSmall_any (x b : Nat) (hb0 : 0 < b) (hb1 : b < 4294967296) (A : Option Addr) (n c : Nat) (w : World) (hN : (dig x).length = n) (hr : DG w A (dig x)) (hl : n ≤ 100000) :
    Calls Try.prog 90 #[.slice A n c, .int .u64 (b : Int)] w fun e w' => ∃ A' c', e = .returned (.tuple #[.slice A' (dig (x / b)).length c', .int .u64 ((x % b : Nat) : Int)]) ∧ DG w' A' (dig (x / b)) ∧ (dig (x / b)).length ≤ c' ∧ Below w.heap.size w w' := by
  have HR := Lib.hid hr
  have HN := Lib.hid hN
  have hmk : ∀ W : World, (Instr.makeSlice 48 (.int .i64 (n : Int)) (.int .i64 (n : Int))).run Try.prog W = .ok (.slice (some ⟨W.heap.size, 0, none⟩) n n) (W.alloc (.cells (dgC (List.replicate n 0)) 104)) := fun W => make_u32 n (by omega) W
  have hB : BG.B = 4294967296 := rfl
  have HK0 := Lib.hid (Blk.new w 104 (dgC (List.replicate n 0)))
  have HB0 := Lib.hid ((Below.refl w.heap.size w).alloc (Nat.le_refl _) (.cells (dgC (List.replicate n 0)) 104))
  clear hr hN
  go_enter Try.func90, Try.ntmps90
  go_wp2_with fail
  go_loopw [5, 15] (fun rv v wr => ∃ (i r : Nat) (rs : List Nat), i ≤ n ∧ v = .int .i64 (i : Int) ∧ rv = .int .u64 (r : Int) ∧ r < b ∧ rs.length = n ∧ BG.ok rs ∧ val ((dig x).drop (n - i)) = val (rs.drop (n - i)) * b + r ∧ Blk wr w.heap.size 104 (dgC rs) ∧ Below w.heap.size w wr) (fun _ v _ => n - (intOf v).toNat)
  case atStart => exact ⟨0, 0, List.replicate n 0, Nat.zero_le _, rfl, rfl, hb0, by simp, fun d hd => by rw [(List.mem_replicate.1 hd).2]; decide, by rw [Nat.sub_zero, List.drop_eq_nil_of_le (by rw [HN.out]; exact Nat.le_refl _), List.drop_eq_nil_of_le (by simp)]; simp [val], HK0.out, HB0.out⟩
  case round =>
    obtain ⟨i, r, rs, hi, rfl, rfl, hrb, hrl, hok, hval, hblk, hbel⟩ := hrel
    have HK := Lib.hid hblk
    have HB := Lib.hid hbel
    have HV := Lib.hid hval
    have HRL := Lib.hid hrl
    have HOK := Lib.hid hok
    have hbl := hblk.lt
    by_cases hin : i < n
    · obtain ⟨j, hj⟩ : ∃ j, n = i + 1 + j := ⟨n - i - 1, by omega⟩
      have q1 : (i : Int) < (n : Int) := by omega
      obtain ⟨a, ha⟩ : ∃ a, (dig x)[j]? = some a := ⟨_, List.getElem?_eq_getElem (by rw [HN.out]; omega)⟩
      have haB := BG.ok_at (BG.ok_dig x) ha
      rw [hB] at haB
      obtain ⟨g, o, rfl, hg, c0⟩ := dg_at (HR.out.below hbel) ha
      have HA := Lib.hid ha
      have f0 := hblk.frozen j
      obtain ⟨r0, hr0⟩ : ∃ r0, rs[j]? = some r0 := ⟨_, List.getElem?_eq_getElem (by rw [hrl]; omega)⟩
      have k0 := dgC_cell hblk hr0
      have z0 : IntKind.i64.wrap ((n : Int) - 1) = (n : Int) - 1 := IntWalk.i64_in _ (by omega)
      have z1 : IntKind.i64.wrap ((n : Int) - 1 - (i : Int)) = (j : Int) := by rw [show (n : Int) - 1 - (i : Int) = (j : Int) by omega]; exact IntWalk.i64_in _ (by omega)
      have q2 : (j : Int) < (n : Int) := by omega
      have z2 : IntKind.i64.wrap ((i : Int) + 1) = (i : Int) + 1 := IntWalk.i64_in _ (by omega)
      have e1 : n - i = j + 1 := by omega
      have e2 : n - (i + 1) = j := by omega
      have HE := Lib.hid (And.intro e1 e2)
      have HJ := Lib.hid hj
      have hor := or32 r a (by omega) haB
      obtain ⟨hQ, hD⟩ := BG.div_step (b := b) (rem := r) (x := a) (Q := val (rs.drop (j + 1))) (D := val ((dig x).drop (j + 1))) hb0 hrb (by rw [hB]; exact haB) (by rw [← e1]; exact hval)
      rw [hB] at hQ hD
      obtain ⟨T, hT⟩ : ∃ T, T = r * 4294967296 + a := ⟨_, rfl⟩
      rw [← hT] at hor hQ hD
      have h1 : (T : Int).tmod (b : Int) = ((T % b : Nat) : Int) := rfl
      have h2 : (T : Int).tdiv (b : Int) = ((T / b : Nat) : Int) := rfl
      have hRm := Nat.mod_lt T hb0
      generalize T % b = Rm at *
      generalize T / b = Q at *
      have z3 : IntKind.u64.wrap (Q : Int) = (Q : Int) := IntWalk.u64_in _ (by omega)
      have z4 : (Q : Int) % 4294967296 = (Q : Int) := by omega
      have z5 : ((b : Int) == 0) = false := by simp; omega
      have z6 : ¬ (b : Int) = 0 := by omega
      have HD := Lib.hid hD
      clear hblk hbel hval hrl hok ha hr0 hj e1 e2 hT hD
      go_wp2_with fail
      refine ⟨⟨i + 1, Rm, rs.set j Q, hin, by simp, rfl, hRm, by rw [List.length_set]; exact HRL.out, ok_set HOK.out (by rw [hB]; exact hQ), ?_, dgC_put HK.out _ _, HB.out.setCell (p := ⟨w.heap.size, j, none⟩) (Nat.le_refl _) _⟩, by simp [intOf]; omega⟩
      rw [HE.out.2, BG.drop_cons HA.out, BG.drop_cons (l := rs.set j Q) (d := Q) (by rw [List.getElem?_set_self (by rw [HRL.out]; have := HJ.out; omega)]), List.drop_set_of_lt (by omega)]
      simp only [val]
      rw [hB, HD.out, Nat.add_comm Q]
    · have q1 : ¬ (i : Int) < (n : Int) := by omega
      have hie : i = n := by omega
      subst hie
      have hVS : val rs = x / b ∧ x % b = r := by
        rw [Nat.sub_self, List.drop_zero, List.drop_zero, BG.val_dig] at hval
        obtain ⟨h1, h2⟩ := BG.div_of hrb hval
        exact ⟨h1.symm, h2⟩
      have HVS := Lib.hid hVS
      have HT := Lib.hid (trim_any rs (some ⟨w.heap.size, 0, none⟩) i i wr hrl (dgC_row hblk) hok (by omega) (Nat.le_refl _))
      have HRW := Lib.hid (dgC_row hblk)
      clear hblk hbel hval hrl hok hVS
      go_wp2_with fail
      refine HT.out.mono ?_
      rintro e w2 ⟨A2, c2, rfl, hr2, hc2, rfl⟩
      rw [HVS.out.1] at hr2 hc2 ⊢
      have HR2 := Lib.hid (hr2 _ HRW.out)
      have HC2 := Lib.hid hc2
      clear hr2 hc2 HT
      go_wp2_with fail
      go_ret2
      rw [HVS.out.2]
      exact ⟨A2, c2, rfl, HR2.out, HC2.out, HB.out⟩
end
end Go.Proofs.Ytdlbokcndbbgnaa
