/- Merged from LawSlOptimal, SlLag, LawSlWindows. -/
import Derived.Test.YtdlbokcndbbgnaaSlR
import Derived.Test.YtdlbokcndbbgnaaBgR
import Derived.Test.YtdlbokcndbbgnaaSlD
import Derived.Deep.CutRange
import Derived.BigQuiet
import Derived.Test.YtdlbokcndbbgnaaSlT
/- SlotsOptimal: where the load fits the cores, the schedule misses no deadline. -/
namespace Go.Proofs.Ytdlbokcndbbgnaa
open Go.RowKit Go.Maps Go.Sort Go.Lib
open SL (Tk Jb Ms Cd)
theorem cores_big {k : Nat} (h : k ≤ 8) : k < BG.B ^ 200 := Nat.lt_of_le_of_lt h (by decide)
/-- taskset.Fits at a plan that is valid. -/
theorem fits_plan (p : Pl) (w : World) (hp : PlIn w p) (h : okP p = true) :
    Calls Try.prog 7 #[.slice p.m.A p.m.ts.length p.m.c, .int .i64 p.cores] w fun e w' => ∃ b, e = .returned (.bool b) ∧ (b = true ↔ SL.okTs p.m.ts = true ∧ PD.fitsP p.m.ts p.cores.toNat) ∧ Below w.heap.size w w' := by
  obtain ⟨k, hk, hk1, hk8⟩ := (okP_of h).c
  have := fits_any p.m.ts k (by omega) (cores_big (by omega)) p.m.A p.m.ts.length p.m.c w rfl (mc_of hp (okP_of h).val).row
  rw [hk]
  exact this
section
set_option maxHeartbeats 2000000
set_option maxRecDepth 100000
theorem optimal_walk (p : Pl) (w : World) (hp : PlIn w p) : Calls Try.prog 3 #[.agg (plV p)] w fun e w' => e = .returned (.bool true) ∧ Below w.heap.size w w' := by
  have hb := (Below.refl w.heap.size w).alloc (Nat.le_refl _) (.cells (plV p) 25)
  have hk := Blk.new w 25 (plV p)
  have HB := Lib.hid hb
  have HK := Lib.hid hk
  have HPI := Lib.hid (hp.below hb)
  have HPV := Lib.hid (show plV p = #[.slice p.m.A p.m.ts.length p.m.c, .int .i64 p.cores, .slice p.m.rA p.m.rs.length p.m.rc, .int .i64 p.untl] from rfl)
  rw [HPV.out] at hk HB HPI HK ⊢
  clear hb hk hp
  go_enter Try.func3, Try.ntmps3
  go_wp2_with fail
  (with_reducible refine (awake_any _).mono ?_)
  rintro e w1 ⟨rfl, hb1⟩
  have HB1 := Lib.hid (HB.out.trans (hb1.mono HB.out.size))
  have HK1 := Lib.hid (HK.out.below hb1)
  have HPI1 := Lib.hid (HPI.out.below hb1)
  obtain ⟨b0, b1, b2, b3⟩ := HK1.out.four.1
  have HSM := Lib.hid (simulated_any p w1 HPI1.out)
  rw [HPV.out] at HSM
  clear hb1
  go_wp2_with fail
  (with_reducible refine HSM.out.mono ?_)
  rintro e w2 ⟨hb2, h2⟩
  have HB2 := Lib.hid (HB1.out.trans (hb2.mono HB1.out.size))
  have HK2 := Lib.hid (HK1.out.below hb2)
  have HPI2 := Lib.hid (HPI1.out.below hb2)
  obtain ⟨c0, c1, c2, c3⟩ := HK2.out.four.1
  clear hb2 HSM
  rcases h2 with ⟨_, rfl⟩ | ⟨hok, gs, mv, rfl, hgs, hS, how⟩
  · go_wp2_with fail
    go_ret
    exact ⟨rfl, HB2.out⟩
  · obtain ⟨A, c, rfl⟩ := own_slice how
    have HFI := Lib.hid (fits_plan p w2 HPI2.out hok)
    have ho := okP_of hok
    have HNM := Lib.hid (show PD.fitsP p.m.ts p.cores.toNat → ((simP p).2.length : Int) = 0 from fun hf => by
      obtain ⟨k, hk, hk1, hk8⟩ := ho.c
      have hv := ho.val
      rw [hk] at hv hf
      have := PD.no_miss (n := p.untl.toNat) hv hf
      unfold simP
      rw [hk]
      show (((SL.simulate p.m.ts p.m.rs k p.untl.toNat).2.length : Nat) : Int) = 0
      rw [this]; rfl)
    clear hok hS how ho
    go_wp2_with fail
    (with_reducible refine HFI.out.mono ?_)
    rintro e w3 ⟨b, rfl, hbb, hb3⟩
    have HB3 := Lib.hid (HB2.out.trans (hb3.mono HB2.out.size))
    clear hb3 HFI
    cases b with
    | false =>
      clear hbb
      go_wp2_with fail
      go_ret
      exact ⟨rfl, HB3.out⟩
    | true =>
      have hz := HNM.out (hbb.1 rfl).2
      clear hbb
      generalize hL : ((simP p).2.length : Int) = L at *
      subst hz
      go_wp2_with fail
      go_ret
      exact ⟨rfl, HB3.out⟩
end
end Go.Proofs.Ytdlbokcndbbgnaa
/- The lag of a task. -/
namespace Go.Proofs.Ytdlbokcndbbgnaa
open Go.RowKit Go.Sort
open SL (Tk)
section
set_option maxHeartbeats 1000000
set_option maxRecDepth 100000
theorem lag_any (t : Tk) (x d : Int) (w : World) (hv : SL.okTk t = true) (hx1 : 0 ≤ x) (hx2 : x ≤ 1000) (hd1 : 0 ≤ d) (hd2 : d ≤ 1000) : Calls Try.prog 10 #[.agg (tkV t), .int .i64 x, .int .i64 d] w fun e w' => e = .returned (.tuple #[.int .i64 (t.cost * x - d * t.per), .int .i64 t.per]) ∧ Gr w w' := by
  obtain ⟨v1, v2, v3⟩ := SL.okTk_iff.1 hv
  obtain ⟨m1, m2⟩ := prod_bounds (a := t.cost) (b := x) (x := 1000) (y := 1000) (by omega) (by omega) (by omega) (by omega)
  obtain ⟨m3, m4⟩ := prod_bounds (a := d) (b := t.per) (x := 1000) (y := 1000) (by omega) (by omega) (by omega) (by omega)
  have z1 : IntKind.i64.wrap (t.cost * x) = t.cost * x := IntWalk.i64_in _ (by omega)
  have z2 : IntKind.i64.wrap (d * t.per) = d * t.per := IntWalk.i64_in _ (by omega)
  have z3 : IntKind.i64.wrap (t.cost * x - d * t.per) = t.cost * x - d * t.per := IntWalk.i64_in _ (by omega)
  have HB1 := Lib.hid ((Gr.refl w).alloc (.cells #[.string t.name, .int .i64 t.cost, .int .i64 t.per] 34))
  have hk0 := Blk.new w 34 #[.string t.name, .int .i64 t.cost, .int .i64 t.per]
  have HK0 := Lib.hid hk0
  obtain ⟨x0, x1, x2⟩ : (w.alloc (.cells #[.string t.name, .int .i64 t.cost, .int .i64 t.per] 34)).cell? ⟨w.heap.size, 0, none⟩ = some (.string t.name) ∧ (w.alloc (.cells #[.string t.name, .int .i64 t.cost, .int .i64 t.per] 34)).cell? ⟨w.heap.size, 1, none⟩ = some (.int .i64 t.cost) ∧ (w.alloc (.cells #[.string t.name, .int .i64 t.cost, .int .i64 t.per] 34)).cell? ⟨w.heap.size, 2, none⟩ = some (.int .i64 t.per) := ⟨hk0.cell 0, hk0.cell 1, hk0.cell 2⟩
  have HPV := Lib.hid (fun W => (show Calls Try.prog 20 #[.agg #[.string t.name, .int .i64 t.cost, .int .i64 t.per]] W _ from pvalid_any t W))
  rw [hv] at HPV
  clear hv hx1 hx2 hd1 hd2 m1 m2 m3 m4 hk0 v1 v2 v3
  rw [show tkV t = #[.string t.name, .int .i64 t.cost, .int .i64 t.per] from rfl]
  go_enter Try.func10, Try.ntmps10
  go_wp2_with fail
  refine (HPV.out _).mono ?_
  rintro e w2 ⟨rfl, hb⟩
  have HB2 := Lib.hid (HB1.out.trans hb)
  have hk02 := HK0.out.below hb.1
  clear x0 x1 x2 hb
  obtain ⟨x0, x1, x2⟩ : w2.cell? ⟨w.heap.size, 0, none⟩ = some (.string t.name) ∧ w2.cell? ⟨w.heap.size, 1, none⟩ = some (.int .i64 t.cost) ∧ w2.cell? ⟨w.heap.size, 2, none⟩ = some (.int .i64 t.per) := ⟨hk02.cell 0, hk02.cell 1, hk02.cell 2⟩
  clear HB1 HK0 hk02 HPV
  go_upto_region 3 with fail
  go_quiet (fail)
  go_wp2_with fail
  go_ret2
  exact ⟨rfl, HB2.out.drewN _⟩
end
end Go.Proofs.Ytdlbokcndbbgnaa
/- SlotsWindows: where the load fits the cores, every subtask runs within its window and every job is within one slot of its share. -/
namespace Go.Proofs.Ytdlbokcndbbgnaa
open Go.RowKit Go.Maps Go.Sort Go.Lib
open SL (Tk Jb Ms Cd)
/-- What the plain law gives for the slot u of the job released at x of task i. -/
def WinAt (U : List (List Int)) (i : Nat) (t : Tk) (x : Int) (u : Nat) : Prop :=
  (SL.inn (U.getD u []) i = true → SL.okW t ((PD.cntB (fun v => PD.ranI U v i) x u : Int) + 1) ∧ x + SL.winR t ((PD.cntB (fun v => PD.ranI U v i) x u : Int) + 1) ≤ u ∧ (u : Int) < x + SL.winD t ((PD.cntB (fun v => PD.ranI U v i) x u : Int) + 1)) ∧
  -t.per < t.cost * ((u : Int) + 1 - x) - (PD.cntB (fun v => PD.ranI U v i) x (u + 1) : Int) * t.per ∧ t.cost * ((u : Int) + 1 - x) - (PD.cntB (fun v => PD.ranI U v i) x (u + 1) : Int) * t.per < t.per
theorem wins_at {ts : List Tk} {rs : List (List Int)} {cores n : Nat} (h : SL.valid ts (cores : Int) rs = true) (hf : PD.fitsP ts cores) {k : Nat} {tt : Tk} {r : List Int} (e1 : ts[k]? = some tt) (e2 : rs[k]? = some r) {x : Int} (hx : x ∈ r) {u : Nat} (hu : u < n) (hxu : x ≤ u) (hup : (u : Int) < x + tt.per) : WinAt (PD.schedI ts rs cores n) k tt x u := by
  refine ⟨fun hr => ?_, PD.lag_run h hf e1 e2 hx hu hxu hup⟩
  obtain ⟨h1, h2, h3⟩ := PD.window_run (n := n) h hf e1 e2 hx hu hxu hup hr
  exact ⟨⟨(PD.valid_parts h).1 tt (List.mem_of_getElem? e1), by omega, h1⟩, h2, h3⟩
theorem cntB_le (ran : Nat → Bool) (x : Int) (u : Nat) : PD.cntB ran x u ≤ u := by
  unfold PD.cntB
  exact Nat.le_trans List.countP_le_length (by simp)
theorem cntB_zero (ran : Nat → Bool) (x : Int) : ∀ u : Nat, (u : Int) ≤ x → PD.cntB ran x u = 0
  | 0, _ => rfl
  | u + 1, h => by rw [PD.cntB_succ, cntB_zero ran x u (by omega), if_neg (by omega)]
theorem wrap_over {z : Int} (h1 : 9223372036854775807 < z) (h2 : z < 18446744073709551616) : IntKind.i64.wrap z = z - 18446744073709551616 := by
  rw [IntKind.wrap_i64]
  omega
/-- C u: the runs of the job ahead of the slot u. -/
def WinC (U : List (List Int)) (n i : Nat) (t : Tk) (X : Nat) (C : Nat → Nat) : Prop :=
  C X = 0 ∧ ∀ (u : Nat) (row : List Int), u < n → X ≤ u → (u : Int) < X + t.per → U[u]? = some row → C u ≤ u ∧ (SL.inn row i = true → C (u + 1) = C u + 1 ∧ SL.okW t ((C u : Int) + 1) ∧ (X : Int) + SL.winR t ((C u : Int) + 1) ≤ u ∧ (u : Int) < X + SL.winD t ((C u : Int) + 1)) ∧
    (SL.inn row i = false → C (u + 1) = C u) ∧ -t.per < t.cost * ((u : Int) + 1 - X) - (C (u + 1) : Int) * t.per ∧ t.cost * ((u : Int) + 1 - X) - (C (u + 1) : Int) * t.per < t.per
theorem winC_run {U : List (List Int)} {n i : Nat} {t : Tk} {X : Nat} (h : ∀ u : Nat, u < n → (X : Int) ≤ u → (u : Int) < X + t.per → WinAt U i t X u) : ∃ C, WinC U n i t X C := by
  refine ⟨PD.cntB (fun v => PD.ranI U v i) X, cntB_zero _ _ _ (Int.le_refl _), fun u row h1 h2 h3 hr => ?_⟩
  obtain ⟨w1, w2, w3⟩ := h u h1 (by omega) h3
  have hD : U.getD u [] = row := by rw [List.getD_eq_getElem?_getD, hr]; rfl
  have hR : PD.ranI U u i = SL.inn row i := by unfold PD.ranI; rw [hD]
  have hs := PD.cntB_succ (fun v => PD.ranI U v i) (X : Int) u
  rw [hD] at w1
  refine ⟨cntB_le _ _ _, fun hi => ?_, fun hi => ?_, w2, w3⟩
  · obtain ⟨a1, a2, a3⟩ := w1 hi
    refine ⟨?_, a1, a2, a3⟩
    rw [hs]
    simp only [hR]
    rw [if_pos ⟨by omega, hi⟩]
  · rw [hs]
    simp only [hR]
    rw [if_neg (fun h => by rw [hi] at h; exact Bool.false_ne_true h.2)]
    rfl
section
set_option maxHeartbeats 4000000
set_option maxRecDepth 100000
theorem windows_walk (p : Pl) (w : World) (hp : PlIn w p) : Calls Try.prog 4 #[.agg (plV p)] w fun e w' => e = .returned (.bool true) ∧ Below w.heap.size w w' := by
  have hb := (Below.refl w.heap.size w).alloc (Nat.le_refl _) (.cells (plV p) 25)
  have hk := Blk.new w 25 (plV p)
  have HB := Lib.hid hb
  have HK := Lib.hid hk
  have HPI := Lib.hid (hp.below hb)
  have HPV := Lib.hid (show plV p = #[.slice p.m.A p.m.ts.length p.m.c, .int .i64 p.cores, .slice p.m.rA p.m.rs.length p.m.rc, .int .i64 p.untl] from rfl)
  rw [HPV.out] at hk HB HPI HK ⊢
  clear hb hk hp
  go_enter Try.func4, Try.ntmps4
  go_wp2_with fail
  (with_reducible refine (awake_any _).mono ?_)
  rintro e w1 ⟨rfl, hb1⟩
  have HB1 := Lib.hid (HB.out.trans (hb1.mono HB.out.size))
  have HK1 := Lib.hid (HK.out.below hb1)
  have HPI1 := Lib.hid (HPI.out.below hb1)
  obtain ⟨b0, b1, b2, b3⟩ := HK1.out.four.1
  have HSM := Lib.hid (simulated_any p w1 HPI1.out)
  rw [HPV.out] at HSM
  clear hb1
  go_wp2_with fail
  (with_reducible refine HSM.out.mono ?_)
  rintro e w2 ⟨hb2, h2⟩
  have HB2 := Lib.hid (HB1.out.trans (hb2.mono HB1.out.size))
  have HK2 := Lib.hid (HK1.out.below hb2)
  have HPI2 := Lib.hid (HPI1.out.below hb2)
  obtain ⟨c0, c1, c2, c3⟩ := HK2.out.four.1
  clear hb2 HSM
  rcases h2 with ⟨_, rfl⟩ | ⟨hok, gs, mv, rfl, hgs, hS, how⟩
  · go_wp2_with fail
    go_ret
    exact ⟨rfl, HB2.out⟩
  · obtain ⟨A, c, rfl⟩ := own_slice how
    have HFI := Lib.hid (fits_plan p w2 HPI2.out hok)
    have HO := Lib.hid (okP_of hok)
    have HS := Lib.hid hS
    clear hok hS how
    go_wp2_with fail
    (with_reducible refine HFI.out.mono ?_)
    rintro e w3 ⟨b, rfl, hbb, hb3⟩
    have HB3 := Lib.hid (HB2.out.trans (hb3.mono HB2.out.size))
    have HK3 := Lib.hid (HK2.out.below hb3)
    have HPI3 := Lib.hid (HPI2.out.below hb3)
    have HR3 := Lib.hid ((sched_rel HS.out).below hb3)
    have HSL := Lib.hid (sched_len HS.out)
    clear hb3 HFI
    cases b with
    | false =>
      clear hbb
      go_wp2_with fail
      go_ret
      exact ⟨rfl, HB3.out⟩
    | true =>
      have hfits := (hbb.1 rfl).2
      clear hbb
      obtain ⟨⟨ts, TA, tc, rs, rA, rc⟩, cores, untl⟩ := p
      obtain ⟨n, hn, hn1⟩ := HO.out.u
      obtain ⟨m, hm, hm1, hm8⟩ := HO.out.c
      simp only at hn hm
      subst hn hm
      have HIL := Lib.hid (okP_ints HO.out)
      have HV := Lib.hid HO.out.val
      have hln : rs.length = ts.length := HO.out.len
      have HW := Lib.hid (show ∀ (k : Nat) (tt : Tk) (r : List Int) (x : Int) (u : Nat), ts[k]? = some tt → rs[k]? = some r → x ∈ r → u < n → x ≤ (u : Int) → (u : Int) < x + tt.per → WinAt ((simP ⟨⟨ts, TA, tc, rs, rA, rc⟩, (m : Int), (n : Int)⟩).1.map SL.ints) k tt x u from
        fun k tt r x u a1 a2 a3 a4 a5 a6 => wins_at (cores := m) (n := n) HO.out.val hfits a1 a2 a3 a4 a5 a6)
      have HOT := Lib.hid (okTs_rows HO.out.ok)
      have HOR := Lib.hid (show ∀ (k : Nat) (tt : Tk) (r : List Int), ts[k]? = some tt → rs[k]? = some r → ∀ x ∈ r, 0 ≤ x from fun k tt r a1 a2 x hx => by
        obtain ⟨j, hj⟩ := List.getElem?_of_mem hx
        exact SL.okRel_at (SL.okRels_all HO.out.oks a1 a2) hj)
      rw [Int.toNat_natCast] at HR3 HS HSL
      generalize (simP ⟨⟨ts, TA, tc, rs, rA, rc⟩, (m : Int), (n : Int)⟩).1 = S0 at *
      have HUL := Lib.hid (show (S0.map SL.ints).length = n by rw [List.length_map]; exact HSL.out)
      clear HS HSL hfits
      generalize S0.map SL.ints = U at *
      obtain ⟨k0, k1, k2, k3⟩ := HK3.out.four.1
      have ht8 : ts.length ≤ 8 := HO.out.t8
      clear HK HK1 HK2 HPI HPI1 HPI2 HPV HO HV HB HB1 HB2 b0 b1 b2 b3 c0 c1 c2 c3
      go_wp2_with fail
      go_loopw [37] (fun v wr => ∃ i : Nat, i ≤ ts.length ∧ v = .int .i64 (i : Int) ∧ Below w3.heap.size w3 wr) (fun v _ => ts.length - (intOf v).toNat)
      case atStart => exact ⟨0, Nat.zero_le _, rfl, Below.refl _ _⟩
      case round =>
        obtain ⟨i, hi, rfl, hbw⟩ := hrel
        by_cases hlt : i < ts.length
        · have q0 : (i : Int) < (ts.length : Int) := by omega
          have q1 : (i : Int) < (rs.length : Int) := by omega
          obtain ⟨t, ht⟩ : ∃ t, ts[i]? = some t := ⟨_, List.getElem?_eq_getElem hlt⟩
          obtain ⟨r, hr⟩ : ∃ r, rs[i]? = some r := ⟨_, List.getElem?_eq_getElem (by omega)⟩
          obtain ⟨v1, v2, v3⟩ := HOT.out.2 t (List.mem_of_getElem? ht)
          have HTK := Lib.hid (SL.okTk_iff.2 ⟨v1, v2, v3⟩)
          have HBW := Lib.hid hbw
          have HPW := Lib.hid (HPI3.out.below hbw)
          obtain ⟨rb, ro, rfl, hrb, c0, c1, c2⟩ := HPW.out.row.tk ht
          have hal := (Below.refl wr.heap.size wr).alloc (Nat.le_refl _) (.cells #[.string t.name, .int .i64 t.cost, .int .i64 t.per] 34)
          have HKW := Lib.hid ((HK3.out.below hbw).below hal)
          have HTW := Lib.hid (Blk.new wr 34 #[.string t.name, .int .i64 t.cost, .int .i64 t.per])
          have HPW2 := Lib.hid (HPW.out.below hal)
          have HB8 := Lib.hid (hbw.trans (hal.mono hbw.size))
          clear hal hbw
          go_upto_region 9 with fail
          generalize hW8 : wr.alloc (.cells #[.string t.name, .int .i64 t.cost, .int .i64 t.per] _) = W8
          rw [show wr.alloc (.cells #[.string t.name, .int .i64 t.cost, .int .i64 t.per] 34) = W8 from hW8] at HKW HTW HPW2 HB8
          clear hW8 c0 c1 c2
          obtain ⟨k0', k1', k2', k3'⟩ := HKW.out.four.1
          obtain ⟨qb, qo, A', c', hra, hqb, cr, hrow⟩ := relV_at HPW2.out.rel hr
          obtain rfl : rA = some ⟨qb, qo, none⟩ := hra
          have HROW := Lib.hid hrow
          generalize wr.heap.size = g7 at *
          have HXR := Lib.hid (show r.length ≤ maxLen ∧ (∀ x ∈ r, 0 ≤ x) ∧ ∀ x ∈ r, x ≤ 9223372036854775807 from ⟨(HPI3.out.lx r (List.mem_of_getElem? hr)).1, HOR.out i t r ht hr, (HPI3.out.lx r (List.mem_of_getElem? hr)).2⟩)
          have HWI := Lib.hid (fun (x : Int) (u : Nat) hx a4 a5 a6 => HW.out i t r x u ht hr hx a4 a5 a6)
          have hrl : r.length ≤ 9223372036854775807 := HXR.out.1
          clear ht hr hrow k0 k1 k2 k3
          go_wp2_with fail
          go_loopw [48] (fun v wz => ∃ j : Nat, j ≤ r.length ∧ v = .int .i64 (j : Int) ∧ Below W8.heap.size W8 wz) (fun v _ => r.length - (intOf v).toNat)
          case atStart => exact ⟨0, Nat.zero_le _, rfl, Below.refl _ _⟩
          case round =>
            obtain ⟨j, hj, rfl, hbz⟩ := hrel
            by_cases hjl : j < r.length
            · have q2 : (j : Int) < (r.length : Int) := by omega
              obtain ⟨x, hx⟩ : ∃ x, r[j]? = some x := ⟨_, List.getElem?_eq_getElem hjl⟩
              have hmem := List.mem_of_getElem? hx
              obtain ⟨X, rfl⟩ := Int.eq_ofNat_of_zero_le (HXR.out.2.1 x hmem)
              have hX := HXR.out.2.2 _ hmem
              obtain ⟨b, o, rfl, _, cy⟩ := (HROW.out.below hbz).at (show (r.map (Value.int .i64))[j]? = some (.int .i64 (X : Int)) by simp [hx])
              obtain ⟨C, hC⟩ := winC_run (U := U) (n := n) (i := i) (t := t) (X := X) (fun (u : Nat) a4 a5 a6 => HWI.out (X : Int) u hmem a4 a5 a6)
              have HWJ := Lib.hid hC
              clear hC
              have HBZ := Lib.hid hbz
              clear hx hmem hbz
              go_upto_region 14 with fail
              go_loopw [10, 11] (fun dv av wy => ∃ u : Nat, X ≤ u ∧ (u = X ∨ u ≤ n) ∧ (u : Int) ≤ X + t.per ∧ av = .int .i64 (u : Int) ∧ dv = .int .i64 (C u : Int) ∧ Below W8.heap.size W8 wy) (fun _ av _ => n - (intOf av).toNat)
              case atStart => exact ⟨X, Nat.le_refl _, .inl rfl, by omega, rfl, by rw [HWJ.out.1]; rfl, HBZ.out⟩
              case round =>
                obtain ⟨u, hu1, hu2, hu3, rfl, rfl, hby⟩ := hrel
                have HBY := Lib.hid hby
                have HTY := Lib.hid (HTW.out.below hby)
                obtain ⟨x0, x1, x2⟩ : wr.cell? ⟨g7, 0, none⟩ = some (.string t.name) ∧ wr.cell? ⟨g7, 1, none⟩ = some (.int .i64 t.cost) ∧ wr.cell? ⟨g7, 2, none⟩ = some (.int .i64 t.per) := ⟨HTY.out.cell 0, HTY.out.cell 1, HTY.out.cell 2⟩
                clear hby
                by_cases hul : u < n
                · by_cases hup : (u : Int) < X + t.per
                  · obtain ⟨row, hrow⟩ : ∃ row, U[u]? = some row := ⟨_, List.getElem?_eq_getElem (by rw [HUL.out]; exact hul)⟩
                    have HWU := Lib.hid (HWJ.out.2 u row hul hu1 hup hrow)
                    obtain ⟨sb, so, A4, c4, e4, _, cs, hrw⟩ := relV_at (HR3.out.below (HB8.out.trans (HBY.out.mono HB8.out.size))) hrow
                    injection e4 with e4
                    injection e4 with e5 e6
                    subst e5 e6
                    rw [Nat.zero_add] at cs
                    have HC := Lib.hid (has_any row A4 c4 (i : Int) wr hrw (by have := HIL.out row (List.mem_of_getElem? hrow); have : maxLen = 9223372036854775807 := rfl; omega))
                    have HCL := Lib.hid (show C u ≤ 100 by have := HWU.out.1; omega)
                    have q3 : (u : Int) < (n : Int) := by omega
                    have hX1 : X ≤ 100 := by omega
                    clear hrow hrw
                    go_wp2_with fail
                    (with_reducible refine HC.out.mono ?_)
                    rintro e w5 ⟨rfl, hw5⟩
                    subst hw5
                    have hcl := HCL.out
                    clear HC cs
                    have hlg1 := HWU.out.2.2.2.1
                    have hlg2 := HWU.out.2.2.2.2
                    cases hn : SL.inn row (i : Int) with
                    | false =>
                      have hE := HWU.out.2.2.1 hn
                      rw [hE] at hlg1 hlg2
                      have HE := Lib.hid hE
                      have HLG := Lib.hid (show Calls Try.prog 10 #[.agg #[.string t.name, .int .i64 t.cost, .int .i64 t.per], .int .i64 ((u : Int) + 1 - X), .int .i64 (C u : Int)] w5 _ from lag_any t ((u : Int) + 1 - X) (C u : Int) w5 (HTK.out) (by omega) (by omega) (by omega) (by omega))
                      generalize t.cost * ((u : Int) + 1 - X) - (C u : Int) * t.per = nm at HLG hlg1 hlg2
                      have l1 : decide (nm ≤ -t.per) = false := decide_eq_false (by omega)
                      have l2 : decide (t.per ≤ nm) = false := decide_eq_false (by omega)
                      have z1 : IntKind.i64.wrap (-t.per) = -t.per := IntWalk.i64_in _ (by omega)
                      clear hn hE hlg1 hlg2 HWU
                      go_wp2_with fail
                      (with_reducible refine HLG.out.mono ?_)
                      rintro e w6 ⟨rfl, hg6⟩
                      have HB6 := Lib.hid (HBY.out.trans (hg6.1.mono HBY.out.size))
                      clear hg6 HLG
                      go_wp2_with fail
                      exact ⟨⟨u + 1, by omega, .inr hul, by omega, by simp, by rw [HE.out], HB6.out⟩, by simp [intOf]; omega⟩
                    | true =>
                      obtain ⟨hE, hok, hw1, hw2⟩ := HWU.out.2.1 hn
                      rw [hE] at hlg1 hlg2
                      have HE := Lib.hid hE
                      have hwb := (SL.winD_bounds hok).2
                      have hw0 : 0 ≤ SL.winR t ((C u : Int) + 1) := Int.ediv_nonneg (Int.mul_nonneg (by omega) (by omega)) (by omega)
                      have HWN := Lib.hid (show Calls Try.prog 9 #[.agg #[.string t.name, .int .i64 t.cost, .int .i64 t.per], .int .i64 ((C u : Int) + 1)] w5 _ from window_any t ((C u : Int) + 1) w5 hok)
                      have HLG := Lib.hid (fun W => (show Calls Try.prog 10 #[.agg #[.string t.name, .int .i64 t.cost, .int .i64 t.per], .int .i64 ((u : Int) + 1 - X), .int .i64 ((C u : Int) + 1)] W _ from lag_any t ((u : Int) + 1 - X) ((C u : Int) + 1) W (HTK.out) (by omega) (by omega) (by omega) (by omega)))
                      rw [show ((C u + 1 : Nat) : Int) = (C u : Int) + 1 from by simp] at hlg1 hlg2
                      generalize t.cost * ((u : Int) + 1 - X) - ((C u : Int) + 1) * t.per = nm at HLG hlg1 hlg2
                      generalize SL.winR t ((C u : Int) + 1) = wR at HWN hw0 hw1
                      generalize SL.winD t ((C u : Int) + 1) = wD at HWN hw2 hwb
                      have l1 : decide (nm ≤ -t.per) = false := decide_eq_false (by omega)
                      have l2 : decide (t.per ≤ nm) = false := decide_eq_false (by omega)
                      have l3 : decide ((u : Int) < X + wR) = false := decide_eq_false (by omega)
                      have l4 : decide ((X : Int) + wD ≤ u) = false := decide_eq_false (by omega)
                      have z1 : IntKind.i64.wrap (-t.per) = -t.per := IntWalk.i64_in _ (by omega)
                      have z2 : IntKind.i64.wrap ((X : Int) + wR) = X + wR := IntWalk.i64_in _ (by omega)
                      have z3 : IntKind.i64.wrap ((X : Int) + wD) = X + wD := IntWalk.i64_in _ (by omega)
                      clear hn hE hlg1 hlg2 HWU hok
                      go_wp2_with fail
                      (with_reducible refine HWN.out.mono ?_)
                      rintro e w6 ⟨rfl, hg6⟩
                      have HB6 := Lib.hid (HBY.out.trans (hg6.1.mono HBY.out.size))
                      have HT6 := Lib.hid (HTY.out.below hg6.1)
                      rw [show stV ((C u : Int) + 1) wR wD = #[.int .i64 ((C u : Int) + 1), .int .i64 wR, .int .i64 wD] from rfl]
                      have hal := (Below.refl w6.heap.size w6).alloc (Nat.le_refl _) (.cells #[.int .i64 ((C u : Int) + 1), .int .i64 wR, .int .i64 wD] 38)
                      have HB7 := Lib.hid (HB6.out.trans (hal.mono HB6.out.size))
                      have HT7 := Lib.hid (HT6.out.below hal)
                      have HS7 := Lib.hid (Blk.new w6 38 #[.int .i64 ((C u : Int) + 1), .int .i64 wR, .int .i64 wD])
                      clear hg6 HWN hal x0 x1 x2
                      go_upto_region 19 with fail
                      generalize hw7 : w6.alloc (.cells #[.int .i64 ((C u : Int) + 1), .int .i64 wR, .int .i64 wD] _) = w7
                      rw [show w6.alloc (.cells #[.int .i64 ((C u : Int) + 1), .int .i64 wR, .int .i64 wD] 38) = w7 from hw7] at HB7 HT7 HS7
                      clear hw7
                      generalize w6.heap.size = g12 at *
                      obtain ⟨x0, x1, x2⟩ : w7.cell? ⟨g7, 0, none⟩ = some (.string t.name) ∧ w7.cell? ⟨g7, 1, none⟩ = some (.int .i64 t.cost) ∧ w7.cell? ⟨g7, 2, none⟩ = some (.int .i64 t.per) := ⟨HT7.out.cell 0, HT7.out.cell 1, HT7.out.cell 2⟩
                      obtain ⟨y0, y1, y2⟩ : w7.cell? ⟨g12, 0, none⟩ = some (.int .i64 ((C u : Int) + 1)) ∧ w7.cell? ⟨g12, 1, none⟩ = some (.int .i64 wR) ∧ w7.cell? ⟨g12, 2, none⟩ = some (.int .i64 wD) := ⟨HS7.out.cell 0, HS7.out.cell 1, HS7.out.cell 2⟩
                      go_wp2_with fail
                      (with_reducible refine (HLG.out w7).mono ?_)
                      rintro e w8 ⟨rfl, hg8⟩
                      have HB8' := Lib.hid (HB7.out.trans (hg8.1.mono HB7.out.size))
                      clear hg8 HLG
                      go_wp2_with fail
                      exact ⟨⟨u + 1, by omega, .inr hul, by omega, by simp, by rw [HE.out]; simp, HB8'.out⟩, by simp [intOf]; omega⟩
                  · have q4 : ¬ (u : Int) < X + t.per := hup
                    have hX1 : X ≤ 100 := by omega
                    go_wp2_with fail
                    exact ⟨⟨j + 1, hjl, by simp, HBY.out⟩, by simp [intOf]; omega⟩
                · have q3 : ¬ (u : Int) < (n : Int) := by omega
                  by_cases hov : (X : Int) + t.per ≤ 9223372036854775807
                  · by_cases q4 : (u : Int) < X + t.per
                    all_goals
                      go_wp2_with fail
                      exact ⟨⟨j + 1, hjl, by simp, HBY.out⟩, by simp [intOf]; omega⟩
                  · have hz : IntKind.i64.wrap ((X : Int) + t.per) = X + t.per - 18446744073709551616 := wrap_over (by omega) (by omega)
                    have q4 : ¬ (u : Int) < X + t.per - 18446744073709551616 := by omega
                    go_wp2_with fail
                    exact ⟨⟨j + 1, hjl, by simp, HBY.out⟩, by simp [intOf]; omega⟩
            · have q2 : ¬ (j : Int) < (r.length : Int) := by omega
              have HB9 := Lib.hid (HB8.out.trans (hbz.mono HB8.out.size))
              clear hbz
              go_wp2_with fail
              exact ⟨⟨i + 1, hlt, by simp, HB9.out⟩, by simp [intOf]; omega⟩
        · have q0 : ¬ (i : Int) < (ts.length : Int) := by omega
          have HB9 := Lib.hid (HB3.out.trans (hbw.mono HB3.out.size))
          clear hbw
          go_wp2_with fail
          go_ret
          exact ⟨rfl, HB9.out⟩
end
end Go.Proofs.Ytdlbokcndbbgnaa
