/- Numbers as digits in memory: leading zeros off, signs, comparison. -/
import Derived.Test.YtdlbokcndbbgnaaSlD
import Derived.Test.YtdlbokcndbbgnaaPlainBig
import Derived.BigQuiet
import Derived.Deep.CutRange
namespace Go.Proofs.Ytdlbokcndbbgnaa
open Go.RowKit Go.Maps
open BG (val dig)
/-- Digits in memory. -/
def dgL (ds : List Nat) : List Value := ds.map fun (d : Nat) => .int .u32 (d : Int)
theorem dgL_at {ds : List Nat} {k d : Nat} (h : ds[k]? = some d) : (dgL ds)[k]? = some (.int .u32 (d : Int)) := by
  unfold dgL
  rw [List.getElem?_map, h]; rfl
/-- Digits in memory, in a block of digits. -/
def DG (w : World) (A : Option Addr) (ds : List Nat) : Prop := ds ≠ [] → ∃ (b o : Nat) (cs : Array Value) (m : Nat × Nat), A = some ⟨b, o, none⟩ ∧ w.heap[b]? = some (.cells cs 104 m) ∧ ∀ (i d : Nat), ds[i]? = some d → cs[o + i]? = some (.int .u32 (d : Int))
theorem DG.fx {T : List TypeId} {w w' : World} {A : Option Addr} {ds : List Nat} (h : DG w A ds) (k : FxT T w w') (ht : 104 ∉ T) : DG w' A ds := fun hn => by
  obtain ⟨b, o, cs, m, h1, h2, h3⟩ := h hn
  exact ⟨b, o, cs, m, h1, k.2 _ _ _ _ h2 ht, h3⟩
theorem DG.below {w w' : World} {A : Option Addr} {ds : List Nat} (h : DG w A ds) (k : Below w.heap.size w w') : DG w' A ds := fun hn => by
  obtain ⟨b, o, cs, m, h1, h2, h3⟩ := h hn
  exact ⟨b, o, cs, m, h1, by rw [k.block b (Array.getElem?_eq_some_iff.1 h2).1, h2], h3⟩
theorem DG.fxb {w : World} {b o : Nat} {ds : List Nat} (h : DG w (some ⟨b, o, none⟩) ds) {g : Nat} (hne : b ≠ g) (i : Nat) (v : Value) : DG (w.setCell ⟨g, i, none⟩ v) (some ⟨b, o, none⟩) ds := fun hn => by
  obtain ⟨b', o', cs, m, h1, h2, h3⟩ := h hn
  injection h1 with h1
  injection h1 with e1 e2
  subst e1 e2
  exact ⟨_, _, cs, m, rfl, (Below.heap_setCell w ⟨g, i, none⟩ v _ hne).trans h2, h3⟩
theorem DG.nil (w : World) (A : Option Addr) : DG w A [] := fun h => absurd rfl h
theorem DG.take {w : World} {A : Option Addr} {ds : List Nat} (h : DG w A ds) (k : Nat) : DG w A (ds.take k) := fun hn => by
  obtain ⟨b, o, cs, m, h1, h2, h3⟩ := h (fun e => hn (by rw [e, List.take_nil]))
  refine ⟨b, o, cs, m, h1, h2, fun i d hi => h3 i d ?_⟩
  rw [List.getElem?_take] at hi
  split at hi
  · exact hi
  · cases hi
theorem dg_at {w : World} {A : Option Addr} {ds : List Nat} (h : DG w A ds) {k d : Nat} (hk : ds[k]? = some d) : ∃ b o, A = some ⟨b, o, none⟩ ∧ b < w.heap.size ∧ w.cell? ⟨b, o + k, none⟩ = some (.int .u32 (d : Int)) := by
  obtain ⟨b, o, cs, m, h1, h2, h3⟩ := h (fun e => by rw [e] at hk; simp at hk)
  refine ⟨b, o, h1, (Array.getElem?_eq_some_iff.1 h2).1, ?_⟩
  rw [cell_of_row w b (o + k) cs _ m h2]
  exact h3 k d hk
/-- An integer in memory. -/
def BI (w : World) (v : Value) (z : Int) : Prop := ∃ A c, v = .agg #[.bool (decide (z < 0)), .slice A (dig z.natAbs).length c] ∧ DG w A (dig z.natAbs) ∧ (dig z.natAbs).length ≤ c
theorem BI.fx {T : List TypeId} {w w' : World} {v : Value} {z : Int} (h : BI w v z) (k : FxT T w w') (ht : 104 ∉ T) : BI w' v z := by
  obtain ⟨A, c, h1, h2, h3⟩ := h
  exact ⟨A, c, h1, h2.fx k ht, h3⟩
theorem BI.below {w w' : World} {v : Value} {z : Int} (h : BI w v z) (hb : Below w.heap.size w w') : BI w' v z := by
  obtain ⟨A, c, h1, h2, h3⟩ := h
  exact ⟨A, c, h1, h2.below hb, h3⟩
section
set_option maxHeartbeats 2000000
set_option maxRecDepth 100000
theorem trim_any (ds : List Nat) (A : Option Addr) (n c : Nat) (w : World) (hN : ds.length = n) (hr : DG w A ds) (hok : BG.ok ds) (hl : n ≤ 1000000) (hc : n ≤ c) :
    Calls Try.prog 77 #[.slice A n c] w fun e w' => ∃ A' c', e = .returned (.slice A' (dig (val ds)).length c') ∧ (∀ W, DG W A ds → DG W A' (dig (val ds))) ∧ (dig (val ds)).length ≤ c' ∧ w' = w := by
  have HR := Lib.hid hr
  have HN := Lib.hid hN
  have HOK := Lib.hid hok
  clear hr hN hok
  go_enter Try.func77, Try.ntmps77
  go_wp2_with fail
  go_loopw [3] (fun v wr => ∃ k : Nat, k ≤ n ∧ v = .int .i64 (k : Int) ∧ (∀ i, k ≤ i → i < n → ds[i]? = some 0) ∧ wr = w) (fun v _ => (intOf v).toNat)
  case atStart => exact ⟨n, Nat.le_refl _, rfl, fun i h1 h2 => absurd h1 (by omega), by first | rfl | trivial⟩
  case round =>
    obtain ⟨k, hk, rfl, hz, rfl⟩ := hrel
    have HZ := Lib.hid hz
    clear hz
    have hend : ∀ (hn : ∀ d, 0 < k → ds[k - 1]? = some d → d ≠ 0), ds.take k = dig (val ds) := fun hn =>
      BG.trim_eq HOK.out (by rw [HN.out]; exact hk) (fun i h1 h2 => HZ.out i h1 (by rw [← HN.out]; exact h2)) hn
    have HEND := Lib.hid hend
    clear hend
    cases k with
    | zero =>
      have he := HEND.out (fun d h => by omega)
      have HE := Lib.hid he
      clear he HEND
      go_wp2_with fail
      go_ret
      rw [← HE.out]
      exact ⟨none, 0, rfl, fun _ _ => DG.nil _ _, Nat.le_refl _, rfl⟩
    | succ k =>
      obtain ⟨d, hd⟩ : ∃ d, ds[k]? = some d := ⟨_, List.getElem?_eq_getElem (by rw [HN.out]; omega)⟩
      obtain ⟨b, o, rfl, hb, hcell⟩ := dg_at HR.out hd
      have q0 : (0 : Int) < ((k + 1 : Nat) : Int) := by omega
      have z0 : IntKind.i64.wrap (((k + 1 : Nat) : Int) - 1) = (k : Int) := by rw [show ((k + 1 : Nat) : Int) - 1 = (k : Int) by omega]; exact IntWalk.i64_in _ (by omega)
      have q1 : (k : Int) < (n : Int) := by omega
      have HD := Lib.hid hd
      by_cases h0 : d = 0
      · subst h0
        clear hd HEND
        go_wp2_with fail
        refine ⟨⟨k, by omega, by simp, fun i h1 h2 => ?_, by first | rfl | trivial⟩, by simp [intOf]⟩
        by_cases hik : i = k
        · rw [hik]; exact HD.out
        · exact HZ.out i (by omega) h2
      · have e0 : ((d : Int) == 0) = false := by simp; omega
        have e1 : (((k + 1 : Nat) : Int) == 0) = false := by simp; omega
        have he := HEND.out (fun x _ hx => by rw [Nat.add_sub_cancel, HD.out] at hx; injection hx with hx; omega)
        have HE := Lib.hid he
        have HL := Lib.hid (show (dig (val ds)).length = k + 1 by rw [← he, List.length_take, HN.out]; omega)
        clear hd HEND he h0
        go_wp2_with fail
        go_ret
        rw [HL.out]
        refine ⟨some ⟨b, o, none⟩, c, rfl, fun W hW => ?_, by omega, rfl⟩
        rw [← HE.out]
        exact hW.take _
theorem bi_result {fn : Func} {p : Tmp} (h : fn.results = #[.cell p 50]) {tmps : Array Value} {w : World} {g : Nat} {a0 a1 : Value} (hp : tmps.getD p undef = .pointer (some ⟨g, 0, none⟩)) (hb : Blk w g 50 #[a0, a1]) :
    (results fn tmps).run Try.prog w = .ok (.agg #[a0, a1]) w :=
  results_cell_row h tmps w g 50 _ (0, 0) _ hp hb Try.underlying50 rfl (by kernel_rfl)
/-- The integer with a sign and an absolute value. -/
def sgI (neg : Bool) (n : Nat) : Int := if neg = true then -(n : Int) else (n : Int)
theorem sgI_abs (neg : Bool) (n : Nat) : (sgI neg n).natAbs = n := by unfold sgI; split <;> simp
theorem sgI_neg (neg : Bool) (n : Nat) : decide (sgI neg n < 0) = (neg && decide ((0 : Int) < ((dig n).length : Int))) := by
  unfold sgI
  by_cases h : n = 0
  · subst h
    rw [BG.dig_zero]
    cases neg <;> simp
  · have : 0 < (dig n).length := by rw [BG.dig_pos h]; simp
    cases neg
    · simp
    · simp; omega
theorem signed_any (neg : Bool) (ds : List Nat) (A : Option Addr) (n c : Nat) (w : World) (hN : ds.length = n) (hr : DG w A ds) (hok : BG.ok ds) (hl : n ≤ 1000000) (hc : n ≤ c) :
    Calls Try.prog 50 #[.bool neg, .slice A n c] w fun e w' => ∃ v, e = .returned v ∧ BI w' v (sgI neg (val ds)) ∧ Below w.heap.size w w' := by
  have hb := (Below.refl w.heap.size w).alloc (Nat.le_refl _) (.cells #[.bool false, .slice none 0 0] 50)
  have HT := Lib.hid (trim_any ds A n c _ hN (hr.below hb) hok hl hc)
  have HR0 := Lib.hid hr
  have HS := Lib.hid (sgI_neg neg (val ds))
  have HA := Lib.hid (sgI_abs neg (val ds))
  generalize val ds = x at *
  clear hN hr hok hb
  go_enter Try.func50, Try.ntmps50
  go_wp2_with fail
  refine HT.out.mono ?_
  rintro e w1 ⟨A', c', rfl, hr', hc', rfl⟩
  have HR := Lib.hid hr'
  have HC := Lib.hid hc'
  clear hr' HT hc'
  cases neg
  · go_wp2_with fail
    refine bodyPost_ret (bi_result rfl rfl (Blk.new w _ _)) rfl ?_
    refine ⟨_, rfl, ⟨A', c', ?_, ?_, ?_⟩, (Below.refl w.heap.size w).alloc (Nat.le_refl _) _⟩
    · rw [HS.out, HA.out]; rfl
    · rw [HA.out]
      exact HR.out _ (HR0.out.below ((Below.refl w.heap.size w).alloc (Nat.le_refl _) _))
    · rw [HA.out]; exact HC.out
  · go_wp2_with fail
    refine bodyPost_ret (bi_result rfl rfl (Blk.new w _ _)) rfl ?_
    refine ⟨_, rfl, ⟨A', c', ?_, ?_, ?_⟩, (Below.refl w.heap.size w).alloc (Nat.le_refl _) _⟩
    · rw [HS.out, HA.out]
      simp
    · rw [HA.out]
      exact HR.out _ (HR0.out.below ((Below.refl w.heap.size w).alloc (Nat.le_refl _) _))
    · rw [HA.out]; exact HC.out
/-- The sign, by the digits. -/
theorem bi_zero {z : Int} : (dig z.natAbs).length = 0 ↔ z = 0 := by
  constructor
  · intro h
    have := BG.val_dig z.natAbs
    rw [List.length_eq_zero_iff.1 h] at this
    simp [BG.val] at this
    omega
  · intro h
    subst h
    rw [show (0 : Int).natAbs = 0 from rfl, BG.dig_zero]; rfl
theorem sign_any (z : Int) (v : Value) (w : World) (h : BI w v z) : Calls Try.prog 46 #[v] w fun e w' => e = .returned (.int .i64 z.sign) ∧ Gr w w' := by
  obtain ⟨A, c, rfl, _, _⟩ := h
  have HZ := Lib.hid (bi_zero (z := z))
  generalize hL : (dig z.natAbs).length = L at *
  by_cases h0 : L = 0
  · have hz := HZ.out.1 h0
    have HS := Lib.hid (show z.sign = 0 by rw [hz]; rfl)
    have hn : decide (z < 0) = false := by rw [hz]; rfl
    rw [hn]
    subst h0
    clear hz hn HZ
    go_enter Try.func46, Try.ntmps46
    go_wp2_with fail
    go_ret
    rw [HS.out]
    exact ⟨rfl, by first | exact (Gr.refl _).alloc _ | exact Gr.refl _⟩
  · have q0 : ((L : Int) == 0) = false := by simp; omega
    by_cases hneg : z < 0
    · have HS := Lib.hid (show z.sign = -1 from Int.sign_eq_neg_one_of_neg hneg)
      rw [decide_eq_true hneg]
      clear HZ h0 hneg hL
      go_enter Try.func46, Try.ntmps46
      go_wp2_with fail
      go_ret
      rw [HS.out]
      exact ⟨rfl, by first | exact (Gr.refl _).alloc _ | exact Gr.refl _⟩
    · have hne : z ≠ 0 := fun e => h0 (HZ.out.2 e)
      have HS := Lib.hid (show z.sign = 1 from Int.sign_eq_one_of_pos (by omega))
      rw [decide_eq_false hneg]
      clear HZ h0 hneg hne hL
      go_enter Try.func46, Try.ntmps46
      go_wp2_with fail
      go_ret
      rw [HS.out]
      exact ⟨rfl, by first | exact (Gr.refl _).alloc _ | exact Gr.refl _⟩
/-- Comparison of absolute values. -/
def cmpN (a b : Nat) : Int := if a < b then -1 else if b < a then 1 else 0
theorem compare_any (x y : Nat) (A A' : Option Addr) (n c n' c' : Nat) (w : World) (hN : (dig x).length = n) (hN' : (dig y).length = n') (hr : DG w A (dig x)) (hr' : DG w A' (dig y)) (hl : n ≤ 1000000) (hl' : n' ≤ 1000000) :
    Calls Try.prog 53 #[.slice A n c, .slice A' n' c'] w fun e w' => e = .returned (.int .i64 (cmpN x y)) ∧ ∃ q, w' = w.drewN q := by
  by_cases hlen : n = n'
  · subst hlen
    have HR := Lib.hid hr
    have HR' := Lib.hid hr'
    have HN := Lib.hid hN
    have HN' := Lib.hid hN'
    have q0 : ((n : Int) != (n : Int)) = false := by simp
    clear hr hr' hN hN'
    go_enter Try.func53, Try.ntmps53
    go_wp2_with fail
    go_loopw [19] (fun v wr => ∃ k q : Nat, k ≤ n ∧ v = .int .i64 (k : Int) ∧ (dig x).drop (n - k) = (dig y).drop (n - k) ∧ wr = w.drewN q) (fun v _ => n - (intOf v).toNat)
    case atStart => exact ⟨0, 0, Nat.zero_le _, rfl, by rw [Nat.sub_zero, List.drop_eq_nil_of_le (by rw [HN.out]; exact Nat.le_refl _), List.drop_eq_nil_of_le (by rw [HN'.out]; exact Nat.le_refl _)], rfl⟩
    case round =>
      obtain ⟨k, q, hk, rfl, hd, hwr⟩ := hrel
      have HD := Lib.hid hd
      have HW := Lib.hid hwr
      clear hd
      by_cases hlt : k < n
      · obtain ⟨j, hj⟩ : ∃ j, n = k + 1 + j := ⟨n - k - 1, by omega⟩
        obtain ⟨a, ha⟩ : ∃ a, (dig x)[j]? = some a := ⟨_, List.getElem?_eq_getElem (by rw [HN.out]; omega)⟩
        obtain ⟨b, hb⟩ : ∃ b, (dig y)[j]? = some b := ⟨_, List.getElem?_eq_getElem (by rw [HN'.out]; omega)⟩
        obtain ⟨g, o, rfl, hg, c0⟩ := dg_at (HR.out.below (show Below w.heap.size w wr by rw [hwr]; exact below_drewN (Below.refl _ _) q)) ha
        obtain ⟨g', o', rfl, hg', c0'⟩ := dg_at (HR'.out.below (show Below w.heap.size w wr by rw [hwr]; exact below_drewN (Below.refl _ _) q)) hb
        have q1 : (k : Int) < (n : Int) := by omega
        have z0 : IntKind.i64.wrap ((n : Int) - 1) = (n : Int) - 1 := IntWalk.i64_in _ (by omega)
        have z1 : IntKind.i64.wrap ((n : Int) - 1 - (k : Int)) = (j : Int) := by rw [show (n : Int) - 1 - (k : Int) = (j : Int) by omega]; exact IntWalk.i64_in _ (by omega)
        have q2 : (j : Int) < (n : Int) := by omega
        have z2 : IntKind.i64.wrap ((k : Int) + 1) = (k : Int) + 1 := IntWalk.i64_in _ (by omega)
        have e1 : n - k = j + 1 := by omega
        have e2 : n - (k + 1) = j := by omega
        have HJ := Lib.hid hj
        have HX := Lib.hid ha
        have HY := Lib.hid hb
        rw [e1] at HD
        have HE2 := Lib.hid e2
        clear hj ha hb e1 e2 hwr
        by_cases hab : a = b
        · have e0 : ((a : Int) != (b : Int)) = false := by simp [hab]
          have HAB := Lib.hid hab
          clear hab
          go_wp2_with fail
          go_quiet (fail)
          go_wp2_with fail
          refine ⟨⟨k + 1, q + nq, hlt, by simp, ?_, by rw [HW.out, World.drewN_drewN]⟩, by simp [intOf]; omega⟩
          rw [HE2.out, BG.drop_cons HX.out, BG.drop_cons HY.out, HD.out, HAB.out]
        · have e0 : ((a : Int) != (b : Int)) = true := by simp; omega
          by_cases hlt2 : a < b
          · have d0 : decide ((a : Int) < (b : Int)) = true := decide_eq_true (by omega)
            have HC := Lib.hid (show cmpN x y = -1 by
              have h1 := BG.cmp_top (BG.ok_dig x) (by rw [HN.out, HN'.out]) HX.out HY.out HD.out hlt2
              rw [BG.val_dig, BG.val_dig] at h1
              unfold cmpN; rw [if_pos h1])
            clear hab
            go_wp2_with fail
            go_quiet (fail)
            generalize hw2 : wr.drewN nq = w2 at *
            have c1 : w2.cell? ⟨g, o + j, none⟩ = some (.int .u32 (a : Int)) := by rw [← hw2]; exact c0
            have c1' : w2.cell? ⟨g', o' + j, none⟩ = some (.int .u32 (b : Int)) := by rw [← hw2]; exact c0'
            have HW2 := Lib.hid (show ∃ q', w2 = w.drewN q' from ⟨q + nq, by rw [← hw2, HW.out, World.drewN_drewN]⟩)
            clear hw2 c0 c0'
            go_wp2_with fail
            go_quiet (fail)
            go_wp2_with fail
            go_ret
            rw [HC.out]
            obtain ⟨q', hq'⟩ := HW2.out
            exact ⟨rfl, q' + nq, by rw [hq', World.drewN_drewN]⟩
          · have d0 : decide ((a : Int) < (b : Int)) = false := decide_eq_false (by omega)
            have HC := Lib.hid (show cmpN x y = 1 by
              have h1 := BG.cmp_top (BG.ok_dig y) (by rw [HN.out, HN'.out]) HY.out HX.out HD.out.symm (by omega)
              rw [BG.val_dig, BG.val_dig] at h1
              unfold cmpN; rw [if_neg (by omega), if_pos h1])
            clear hab
            go_wp2_with fail
            go_quiet (fail)
            generalize hw2 : wr.drewN nq = w2 at *
            have c1 : w2.cell? ⟨g, o + j, none⟩ = some (.int .u32 (a : Int)) := by rw [← hw2]; exact c0
            have c1' : w2.cell? ⟨g', o' + j, none⟩ = some (.int .u32 (b : Int)) := by rw [← hw2]; exact c0'
            have HW2 := Lib.hid (show ∃ q', w2 = w.drewN q' from ⟨q + nq, by rw [← hw2, HW.out, World.drewN_drewN]⟩)
            clear hw2 c0 c0'
            go_wp2_with fail
            go_quiet (fail)
            go_wp2_with fail
            go_ret
            rw [HC.out]
            obtain ⟨q', hq'⟩ := HW2.out
            exact ⟨rfl, q' + nq, by rw [hq', World.drewN_drewN]⟩
      · have q1 : ¬ (k : Int) < (n : Int) := by omega
        have HC := Lib.hid (show cmpN x y = 0 by
          have h1 := HD.out
          rw [show n - k = 0 by omega, List.drop_zero, List.drop_zero] at h1
          have h2 := congrArg val h1
          rw [BG.val_dig, BG.val_dig] at h2
          unfold cmpN; rw [if_neg (by omega), if_neg (by omega)])
        clear hwr
        go_wp2_with fail
        go_ret
        rw [HC.out]
        exact ⟨rfl, q, HW.out⟩
  · have q0 : ((n : Int) != (n' : Int)) = true := by simp; omega
    by_cases hlt : n < n'
    · have d0 : decide ((n : Int) < (n' : Int)) = true := decide_eq_true (by omega)
      have HC := Lib.hid (show cmpN x y = -1 by
        have h1 := BG.dig_lt_of_len (m := x) (n := y) (by omega)
        unfold cmpN; rw [if_pos h1])
      clear hr hr' hN hN' hlen
      go_enter Try.func53, Try.ntmps53
      go_wp2_with fail
      go_ret
      rw [HC.out]
      exact ⟨rfl, 0, rfl⟩
    · have d0 : decide ((n : Int) < (n' : Int)) = false := decide_eq_false (by omega)
      have HC := Lib.hid (show cmpN x y = 1 by
        have h1 := BG.dig_lt_of_len (m := y) (n := x) (by omega)
        unfold cmpN; rw [if_neg (by omega), if_pos h1])
      clear hr hr' hN hN' hlen
      go_enter Try.func53, Try.ntmps53
      go_wp2_with fail
      go_ret
      rw [HC.out]
      exact ⟨rfl, 0, rfl⟩
end
end Go.Proofs.Ytdlbokcndbbgnaa
