/- Numbers as digits in memory: division. -/
import Derived.Test.YtdlbokcndbbgnaaBgH
import Derived.Lib.BitFns
namespace Go.Proofs.Ytdlbokcndbbgnaa
open Go.RowKit Go.Maps Go.Sort
open BG (val dig)
theorem bitLenAux_spec : ∀ (f x : Nat), x ≠ 0 → x < 2 ^ f → ∃ L, Lib.bitLenAux f x = L + 1 ∧ 2 ^ L ≤ x ∧ x < 2 ^ (L + 1) ∧ L + 1 ≤ f
  | 0, x, h, h1 => by simp at h1; exact absurd h1 h
  | f + 1, x, h, h1 => by
    rw [Lib.bitLenAux, if_neg h]
    by_cases hx : x / 2 = 0
    · refine ⟨0, ?_, by simp; omega, by simp; omega, by omega⟩
      rw [hx]
      cases f <;> simp [Lib.bitLenAux]
    · obtain ⟨L, h2, h3, h4, h5⟩ := bitLenAux_spec f (x / 2) hx (by rw [Nat.pow_succ] at h1; omega)
      refine ⟨L + 1, by omega, ?_, ?_, by omega⟩
      · rw [Nat.pow_succ]; omega
      · rw [Nat.pow_succ]; omega
theorem lead32 {x : Nat} (h : x ≠ 0) (h1 : x < 4294967296) : ∃ s : Nat, s ≤ 31 ∧ (32 : Int) - (Lib.bitLen x : Int) = (s : Int) ∧ 2147483648 ≤ x * 2 ^ s ∧ x * 2 ^ s < 4294967296 := by
  obtain ⟨L, h2, h3, h4, h5⟩ := bitLenAux_spec 64 x h (by omega)
  have hL : L + 1 ≤ 32 := by
    refine Nat.le_of_not_lt fun hlt => ?_
    have : 2 ^ 32 ≤ 2 ^ L := Nat.pow_le_pow_right (by omega) (by omega)
    omega
  refine ⟨31 - L, by omega, by unfold Lib.bitLen; rw [h2]; omega, ?_, ?_⟩
  · have := Nat.mul_le_mul_right (2 ^ (31 - L)) h3
    rw [← Nat.pow_add, show L + (31 - L) = 31 by omega] at this
    omega
  · have h6 : x + 1 ≤ 2 ^ (L + 1) := h4
    have := Nat.mul_lt_mul_of_pos_right h4 (show 0 < 2 ^ (31 - L) from Nat.pow_pos (by omega))
    rw [← Nat.pow_add, show L + 1 + (31 - L) = 32 by omega] at this
    omega
theorem val_take_small {l : List Nat} {m : Nat} (h : val l < BG.B ^ m) : val (l.take m) = val l := by
  by_cases hm : m ≤ l.length
  · have h1 := BG.val_split l m hm
    have h2 : val (l.drop m) = 0 := by
      refine Nat.eq_zero_of_not_pos fun hp => ?_
      have := Nat.mul_le_mul_left (BG.B ^ m) hp
      omega
    rw [h2, Nat.mul_zero, Nat.add_zero] at h1
    exact h1.symm
  · rw [BG.val_take_end (by omega)]
theorem top_ge {l : List Nat} (hl : BG.ok l) {m c a : Nat} (hn : l.length = m + 1) (ha : l[m]? = some a) (h : c * BG.B ^ m ≤ val l) : c ≤ a := by
  have h1 := BG.val_take_succ ha
  rw [BG.val_take_end (by omega)] at h1
  have h2 := BG.val_lt (BG.ok_take hl m)
  rw [List.length_take, Nat.min_eq_left (by omega)] at h2
  refine Nat.le_of_not_lt fun hlt => ?_
  have h3 : (a + 1) * BG.B ^ m ≤ c * BG.B ^ m := Nat.mul_le_mul_right _ hlt
  rw [Nat.add_mul, Nat.mul_comm a] at h3
  omega
/-- A number of so many digits, by its highest one. -/
theorem top_bounds {y m a : Nat} (hn : (dig y).length = m + 1) (ha : (dig y)[m]? = some a) : a * BG.B ^ m ≤ y ∧ y < (a + 1) * BG.B ^ m ∧ a ≠ 0 := by
  have h1 := BG.val_take_succ ha
  rw [BG.val_take_end (by omega), BG.val_dig] at h1
  have h2 := BG.val_lt (BG.ok_take (BG.ok_dig y) m)
  rw [List.length_take, Nat.min_eq_left (by omega)] at h2
  refine ⟨by rw [Nat.mul_comm]; omega, by rw [Nat.add_mul, Nat.mul_comm a]; omega, ?_⟩
  exact BG.can_dig y a (by rw [hn, Nat.add_sub_cancel]; exact ha)
/-- A result of two lists of digits. -/
def DvR (w w' : World) (q r : Nat) (e : Ending) : Prop := ∃ A1 c1 A2 c2, e = .returned (.tuple #[.slice A1 (dig q).length c1, .slice A2 (dig r).length c2]) ∧ DG w' A1 (dig q) ∧ (dig q).length ≤ c1 ∧ DG w' A2 (dig r) ∧ (dig r).length ≤ c2 ∧ Below w.heap.size w w'
section
set_option maxHeartbeats 8000000
set_option maxRecDepth 100000
theorem div_small_case (x y : Nat) (hlt : x < y) (A A' : Option Addr) (n c n' c' : Nat) (w : World) (hN : (dig x).length = n) (hN' : (dig y).length = n') (hr : DG w A (dig x)) (hr' : DG w A' (dig y)) (hc : n ≤ c) (hl : n ≤ 100000) (hl' : n' ≤ 100000) :
    Calls Try.prog 76 #[.slice A n c, .slice A' n' c'] w fun e w' => DvR w w' (x / y) (x % y) e := by
  have HCM := Lib.hid (compare_any x y A A' n c n' c' w hN hN' hr hr' (by omega) (by omega))
  have hcm : cmpN x y = -1 := by unfold cmpN; rw [if_pos hlt]
  rw [hcm] at HCM
  have HD := Lib.hid (And.intro (Nat.div_eq_of_lt hlt) (Nat.mod_eq_of_lt hlt))
  have HN := Lib.hid hN
  have HR := Lib.hid hr
  have HC := Lib.hid hc
  clear hN hN' hr hr' hcm hc
  go_enter Try.func76, Try.ntmps76
  go_wp2_with fail
  refine HCM.out.mono ?_
  rintro e w2 ⟨rfl, q, rfl⟩
  go_wp2_with fail
  go_ret2
  refine ⟨none, 0, A, c, ?_, ?_, ?_, ?_, ?_, below_drewN (Below.refl _ _) q⟩
  · rw [HD.out.1, HD.out.2, BG.dig_zero, HN.out]; rfl
  · rw [HD.out.1, BG.dig_zero]; exact DG.nil _ _
  · rw [HD.out.1, BG.dig_zero]; exact Nat.le_refl _
  · rw [HD.out.2]; exact HR.out.below (below_drewN (Below.refl _ _) q)
  · rw [HD.out.2, HN.out]; exact HC.out
theorem div_one_case (x y : Nat) (hle : y ≤ x) (A A' : Option Addr) (n c c' : Nat) (w : World) (hN : (dig x).length = n) (hN' : (dig y).length = 1) (hr : DG w A (dig x)) (hr' : DG w A' (dig y)) (hl : n ≤ 100000) :
    Calls Try.prog 76 #[.slice A n c, .slice A' 1 c'] w fun e w' => DvR w w' (x / y) (x % y) e := by
  have HCM := Lib.hid (compare_any x y A A' n c 1 c' w hN hN' hr hr' (by omega) (by omega))
  obtain ⟨a, ha⟩ : ∃ a, (dig y)[0]? = some a := ⟨_, List.getElem?_eq_getElem (by omega)⟩
  obtain ⟨t1, t2, t3⟩ := top_bounds (m := 0) (by omega) ha
  rw [Nat.pow_zero, Nat.mul_one] at t1 t2
  have hay : a = y := by omega
  subst hay
  have haB := BG.ok_at (BG.ok_dig a) ha
  obtain ⟨g, o, rfl, hg, c0⟩ := dg_at hr' ha
  have hcm : ¬ cmpN x a < 0 := by unfold cmpN; rw [if_neg (by omega)]; split <;> omega
  have HDS := Lib.hid (fun m => divSmall_any x a (by omega) haB A n c (w.drewN m) hN (hr.below (below_drewN (Below.refl _ _) m)) hl)
  have hB : BG.B = 4294967296 := rfl
  have HM := Lib.hid (Nat.mod_lt x (show 0 < a by omega))
  rw [hB] at haB
  generalize cmpN x a = cv at *
  clear hN hN' hr hr' ha
  go_enter Try.func76, Try.ntmps76
  go_wp2_with fail
  refine HCM.out.mono ?_
  rintro e w2 ⟨rfl, q, rfl⟩
  have c1 : (w.drewN q).cell? ⟨g, o, none⟩ = some (.int .u32 (a : Int)) := c0
  have HDS2 := Lib.hid (HDS.out q)
  have HB2 := Lib.hid (show Below w.heap.size w (w.drewN q) from below_drewN (Below.refl _ _) q)
  clear HDS c0
  generalize w.drewN q = w2 at *
  go_wp2_with fail
  refine HDS2.out.mono ?_
  rintro e w3 ⟨A3, c3, rfl, hr3, hc3, hb3⟩
  have HR3 := Lib.hid hr3
  have HC3 := Lib.hid hc3
  have HB3 := Lib.hid (HB2.out.trans (hb3.mono HB2.out.size))
  clear hr3 hc3 hb3 HDS2
  obtain ⟨r, hr⟩ : ∃ r, r = x % a := ⟨_, rfl⟩
  rw [← hr] at HM ⊢
  have hrB : r < 4294967296 := by have := HM.out; omega
  have HRR := Lib.hid (show val [r] = r by simp [val])
  have HT := Lib.hid (trim_any [r] (some ⟨w3.heap.size, 0, none⟩) 1 1 (w3.alloc (.cells (dgC [r]) 104)) rfl (dgC_row (Blk.new w3 _ _)) (fun d hd => by rw [List.mem_singleton.1 hd, hB]; exact hrB) (by omega) (Nat.le_refl _))
  have HK := Lib.hid (dgC_row (Blk.new w3 104 (dgC [r])))
  have HG3 := Lib.hid ((Below.refl w3.heap.size w3).alloc (Nat.le_refl _) (.cells (dgC [r]) 104))
  have z1 : (r : Int) % 4294967296 = (r : Int) := by omega
  rw [show dgC [r] = #[.int .u32 (r : Int)] from rfl] at HT HK HG3
  generalize hQ : dig (x / a) = Q at *
  have HQ := Lib.hid hQ
  have HHR := Lib.hid hr
  clear hQ hr
  go_wp2_with fail
  refine HT.out.mono ?_
  rintro e w5 ⟨A5, c5, rfl, hr5, hc5, rfl⟩
  rw [HRR.out] at hr5 hc5 ⊢
  have HR5 := Lib.hid (hr5 _ HK.out)
  have HC5 := Lib.hid hc5
  clear hr5 hc5 HT
  go_wp2_with fail
  go_ret2
  refine ⟨A3, c3, A5, c5, ?_, ?_, ?_, ?_, ?_, HB3.out.trans (HG3.out.mono HB3.out.size)⟩
  · rw [HQ.out, ← HHR.out]; rfl
  · rw [HQ.out]; exact HR3.out.below HG3.out
  · rw [HQ.out]; exact HC3.out
  · rw [← HHR.out]; exact HR5.out
  · rw [← HHR.out]; exact HC5.out
end
end Go.Proofs.Ytdlbokcndbbgnaa
