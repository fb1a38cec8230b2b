/- The walk of Check. -/
import Derived.Test.YtgfojgabobakdaaSlI
import Derived.Test.YtgfojgabobakdaaSlK
namespace Go.Proofs.Ytgfojgabobakdaa
open Go.RowKit Go.Maps Go.Sort Go.Lib
open SL (Tk Jb Ms Cd)
theorem chkS_err (ts : List Tk) (rs : List (List Int)) (cores : Int) : ∀ (S : List (List Int)) (t : Nat) (js : List Jb), (SL.chkS ts rs cores S t js).2 ≠ 0 → (SL.chkS ts rs cores S t js).1 = []
  | [], t, js, h => by simp [SL.chkS] at h
  | r :: S, t, js, h => by
    rw [SL.chkS] at h ⊢
    simp only at h ⊢
    by_cases he : SL.chkRow ts cores (SL.begJs ts rs t js) r = 0
    · rw [if_pos he] at h ⊢
      simp only at h ⊢
      rw [if_neg h]
    · rw [if_neg he]
theorem chkRow_ok {ts : List Tk} {cores : Int} {js : List Jb} {r : List Int} (h : SL.chkRow ts cores js r = 0) : SL.asc ts.length (-1) r = true ∧ r.all (SL.pendAt ts js) = true := by
  unfold SL.chkRow at h
  cases ha : SL.asc ts.length (-1) r with
  | false => rw [ha] at h; simp at h
  | true =>
    rw [ha, if_pos rfl] at h
    refine ⟨rfl, ?_⟩
    by_cases hc : cores < (r.length : Int)
    · rw [if_pos hc] at h; simp at h
    · rw [if_neg hc] at h
      cases hp : r.all (SL.pendAt ts js) with
      | true => rfl
      | false => rw [hp] at h; simp at h
theorem asc_gt (n : Nat) : ∀ (r : List Int) (b : Int), SL.asc n b r = true → ∀ x ∈ r, b < x
  | [], _, _ => by simp
  | i :: l, b, h => by
    simp [SL.asc] at h
    intro x hx
    rcases List.mem_cons.1 hx with rfl | hx
    · exact h.1.1
    · have := asc_gt n l i h.2 x hx
      omega
theorem asc_nodup (n : Nat) : ∀ (r : List Int) (b : Int), SL.asc n b r = true → r.Nodup
  | [], _, _ => List.nodup_nil
  | i :: l, b, h => by
    simp [SL.asc] at h
    rw [List.nodup_cons]
    exact ⟨fun hm => by have := asc_gt n l i h.2 i hm; omega, asc_nodup n l i h.2⟩
section
set_option maxHeartbeats 4000000
set_option maxRecDepth 100000
theorem checkS_any (M : Mdl) (cores : Int) (w : World) (hmc : MC w M) (hv : SL.valid M.ts cores M.rs = true) (hx : ∀ r ∈ M.rs, r.length ≤ maxLen ∧ ∀ x ∈ r, x ≤ 9223372036854775807) (hrl : M.rs.length ≤ maxLen)
    (S : List (List Int)) (A : Option Addr) (c : Nat) (hS : RelV w (.slice A S.length c) S) (hSl : S.length ≤ 100000) (hSr : ∀ r ∈ S, r.length ≤ maxLen) :
    Calls Try.prog 21 #[M.tv, .int .i64 cores, M.rv, .slice A S.length c] w fun e w' => ∃ v, e = .returned (.tuple #[v, .int .i64 ((SL.chkS M.ts M.rs cores S 0 (List.replicate M.ts.length SL.jb0)).2 : Int)]) ∧
      w'.ownsRow w.heap.size 84 3 v (SL.chkS M.ts M.rs cores S 0 (List.replicate M.ts.length SL.jb0)).1.length (msC (SL.chkS M.ts M.rs cores S 0 (List.replicate M.ts.length SL.jb0)).1) ∧ Below w.heap.size w w' := by
  have hnot : ∀ (x : Bool) (w : World), (Op.unary .not (.bool x)).run Try.prog w = .ok (.bool (!x)) w := fun _ _ => rfl
  have hmx : maxLen = 9223372036854775807 := rfl
  have HVA := Lib.hid (valid_any M cores w hmc.row hmc.rel hx hrl)
  rw [hv] at HVA
  have h40 := hmc.n40
  have HMC := Lib.hid hmc
  have HS := Lib.hid hS
  have HSR := Lib.hid hSr
  rw [show M.tv = .slice M.A M.ts.length M.c from rfl, show M.rv = .slice M.rA M.rs.length M.rc from rfl] at HVA ⊢
  have HERR := Lib.hid (chkS_err M.ts M.rs cores S 0 (List.replicate M.ts.length SL.jb0))
  generalize hQ : SL.chkS M.ts M.rs cores S 0 (List.replicate M.ts.length SL.jb0) = Q at *
  have HQ := Lib.hid hQ
  have d2 : decide ((100000 : Int) < (S.length : Int)) = false := decide_eq_false (by omega)
  clear hmc hv hx hrl hQ hS hSr
  go_enter Try.func21, Try.ntmps21
  go_wp2_with fail
  refine HVA.out.mono ?_
  rintro e w1 ⟨rfl, hg1⟩
  have HB1 := Lib.hid hg1.1
  have HMC1 := Lib.hid (show MC w1 M from ⟨HMC.out.ok, HMC.out.len, HMC.out.oks, HMC.out.row.below hg1.1, HMC.out.rel.below hg1.1⟩)
  have HST := Lib.hid (start_any M w1 h40)
  rw [show M.tv = .slice M.A M.ts.length M.c from rfl, show M.rv = .slice M.rA M.rs.length M.rc from rfl] at HST
  clear hg1 HVA
  go_wp2_with fail
  refine HST.out.mono ?_
  rintro e w2 ⟨gm, gj, rfl, hI2⟩
  have HREL := Lib.hid (show ∃ (t : Nat) (js : List Jb) (mv : Value) (ms : List Ms), t ≤ S.length ∧ (Value.int .i64 0) = .int .i64 (t : Int) ∧ MInv w1 M gm gj js mv ms w2 ∧ ms.length ≤ 40 * t ∧ Q = (if (SL.chkS M.ts M.rs cores (S.drop t) t js).2 = 0 then ms ++ (SL.chkS M.ts M.rs cores (S.drop t) t js).1 else [], (SL.chkS M.ts M.rs cores (S.drop t) t js).2) from
    ⟨0, _, _, [], Nat.zero_le _, rfl, hI2, by simp, by
      rw [List.drop_zero, HQ.out]
      by_cases h0 : Q.2 = 0
      · rw [if_pos h0]; rfl
      · rw [if_neg h0, ← HERR.out h0]⟩)
  clear hI2 HST
  go_wp2_with fail
  go_loopw [29] (fun iv wr => ∃ (t : Nat) (js : List Jb) (mv : Value) (ms : List Ms), t ≤ S.length ∧ iv = .int .i64 (t : Int) ∧ MInv w1 M gm gj js mv ms wr ∧ ms.length ≤ 40 * t ∧ Q = (if (SL.chkS M.ts M.rs cores (S.drop t) t js).2 = 0 then ms ++ (SL.chkS M.ts M.rs cores (S.drop t) t js).1 else [], (SL.chkS M.ts M.rs cores (S.drop t) t js).2)) (fun iv _ => S.length - (intOf iv).toNat)
  case atStart => exact HREL.out
  case round =>
    obtain ⟨t, js, mv, ms, htn, rfl, hI, hms, hq⟩ := hrel
    have HI := Lib.hid hI
    by_cases hlt : t < S.length
    · have q0 : (t : Int) < (S.length : Int) := by omega
      obtain ⟨r, hr⟩ : ∃ r, S[t]? = some r := ⟨_, List.getElem?_eq_getElem hlt⟩
      have hdr : S.drop t = r :: S.drop (t + 1) := by
        obtain ⟨h1, h2⟩ := List.getElem?_eq_some_iff.1 hr
        rw [← h2]; exact List.drop_eq_getElem_cons h1
      have hbw : Below w.heap.size w wr := HB1.out.trans (hI.be.mono HB1.out.size)
      obtain ⟨A', c', hs, hsv, hsl, hrow, hrr⟩ := HS.out
      injection hsv with hA
      obtain ⟨Ai, ci, hsi, hri⟩ := hrr t r hr
      rw [← hA] at hrow
      obtain ⟨rb, ro, rfl, _, cr⟩ := (hrow.below hbw).at hsi
      have hrm := HSR.out r (List.mem_of_getElem? hr)
      rw [hmx] at hrm
      have HBG := Lib.hid (begin_any w1 M HMC1.out gm gj js mv ms t (by omega) (by omega) wr hI)
      have hml := begMs_len M.ts t 0 js
      rw [hdr, SL.chkS] at hq
      simp only at hq
      have HQ2 := Lib.hid hq
      have HRI := Lib.hid hri
      have HBW := Lib.hid hbw
      clear hI hq hdr hrow hrr hsl hsi hri hr hA HREL hbw
      go_wp2_with fail
      refine HBG.out.mono ?_
      rintro e w4 ⟨rfl, ⟨mv1, hI4⟩, _⟩
      have hb4 : Below w.heap.size w w4 := HB1.out.trans (hI4.be.mono HB1.out.size)
      have HCK := Lib.hid (check_any w1 M HMC1.out gm gj _ mv1 _ cores r Ai ci w4 hI4 (HRI.out.below hb4) (by rw [hmx]; exact hrm))
      have HI4 := Lib.hid hI4
      generalize SL.begJs M.ts M.rs t js = js1 at *
      clear hI4 hb4 HBG
      by_cases he : SL.chkRow M.ts cores js1 r = 0
      · obtain ⟨ha, hp⟩ := chkRow_ok he
        rw [he] at HCK
        have hq := HQ2.out
        rw [if_pos he] at hq
        have HQ3 := Lib.hid hq
        clear hq HQ2 he
        go_wp2_with fail
        refine HCK.out.mono ?_
        rintro e w5 ⟨rfl, q5, hw5⟩
        have HI5 := Lib.hid (show MInv w1 M gm gj js1 mv1 (ms ++ SL.begMs M.ts t 0 js) w5 by rw [hw5]; exact HI4.out.drewN q5)
        clear hw5 HCK HI4
        have HA := Lib.hid ha
        have HP := Lib.hid hp
        have HRG := Lib.hid (asc_range M.ts.length r (-1) (by omega) ha)
        have HND := Lib.hid (asc_nodup M.ts.length r (-1) ha)
        clear ha hp
        go_wp2_with fail
        go_loopw [46] (fun iv wx => ∃ i : Nat, i ≤ r.length ∧ iv = .int .i64 (i : Int) ∧ MInv w1 M gm gj (SL.bump js1 ((r.take i).map Int.toNat)) mv1 (ms ++ SL.begMs M.ts t 0 js) wx) (fun iv _ => r.length - (intOf iv).toNat)
        case atStart => exact ⟨0, Nat.zero_le _, rfl, HI5.out⟩
        case round =>
          obtain ⟨i, hi, rfl, hmi⟩ := hrel
          have HMI := Lib.hid hmi
          by_cases hil : i < r.length
          · have q1 : (i : Int) < (r.length : Int) := by omega
            obtain ⟨x, hx⟩ : ∃ x, r[i]? = some x := ⟨_, List.getElem?_eq_getElem hil⟩
            obtain ⟨hx0, hx1⟩ := HRG.out x (List.mem_of_getElem? hx)
            have hpx := List.all_eq_true.1 HP.out x (List.mem_of_getElem? hx)
            have htk : r.take (i + 1) = r.take i ++ [x] := by
              obtain ⟨h1, h2⟩ := List.getElem?_eq_some_iff.1 hx
              rw [List.take_succ_eq_append_getElem h1, h2]
            have hnin : x.toNat ∉ (r.take i).map Int.toNat := by
              intro h
              obtain ⟨y, hy, hyx⟩ := List.mem_map.1 h
              have hy0 := (HRG.out y (List.mem_of_mem_take hy)).1
              have : y = x := by omega
              subst this
              have hnd := HND.out
              rw [← List.take_append_drop (i + 1) r, htk] at hnd
              exact (List.nodup_append.1 (List.nodup_append.1 hnd).1).2.2 y hy y (by simp) rfl
            obtain ⟨kx, rfl⟩ := Int.eq_ofNat_of_zero_le hx0
            rw [Int.toNat_natCast] at hnin
            have hkx : kx < M.ts.length := by omega
            obtain ⟨tt, hts⟩ : ∃ t, M.ts[kx]? = some t := ⟨_, List.getElem?_eq_getElem hkx⟩
            have hjl1 : js1.length = M.ts.length := by have := hmi.jl; rw [bump_len] at this; exact this
            obtain ⟨jj, hjs⟩ : ∃ j, js1[kx]? = some j := ⟨_, List.getElem?_eq_getElem (by omega)⟩
            have hjk : (SL.bump js1 ((r.take i).map Int.toNat))[kx]? = some jj := by rw [bump_get _ _ _ hnin]; exact hjs
            have hpe2 : jj.done < tt.cost := by
              unfold SL.pendAt at hpx
              rw [Int.toNat_natCast, hts, hjs] at hpx
              unfold SL.pend at hpx
              simp at hpx
              exact hpx.2
            have hcost := SL.okTk_iff.1 (HMC1.out.okt hts)
            have hoj := hmi.ok jj (List.mem_of_getElem? hjk)
            have hd0 : 0 ≤ jj.done := hoj.2.2.1
            have m2 : wr.cell? ⟨gm, 2, none⟩ = some (.slice (some ⟨gj, 0, none⟩) M.ts.length M.ts.length) := hmi.bm.cell 2
            obtain ⟨_, _, j2, _⟩ := jb_cells hmi.bj hjk
            have jf := hmi.bj.frozen (kx * 4 + 2)
            have z7 : IntKind.i64.wrap (jj.done + 1) = jj.done + 1 := IntWalk.i64_in _ (by omega)
            have hnx := hmi.job (m := 2) (j' := { jj with done := jj.done + 1 }) (v := .int .i64 (jj.done + 1)) hjk (by omega) rfl ⟨hoj.1, hoj.2.1, by show 0 ≤ jj.done + 1; omega, by show jj.done + 1 ≤ 1000; omega, hoj.2.2.2.2⟩
            rw [← bump1_set hjk, ← bump_snoc, show (r.take i).map Int.toNat ++ [kx] = (r.take (i + 1)).map Int.toNat from by rw [htk]; simp] at hnx
            have HNX := Lib.hid hnx
            obtain ⟨ab, ao, rfl, _, cx⟩ := (HRI.out.below (HB1.out.trans (hmi.be.mono HB1.out.size))).at (show (r.map (Value.int .i64))[i]? = some (.int .i64 (kx : Int)) by simp [hx])
            clear hx hx0 hx1 hpx htk hnin hts hjs hjk hpe2 hcost hoj hmi hnx hjl1
            go_wp2_with fail
            exact ⟨⟨i + 1, hil, by simp, HNX.out⟩, by simp [intOf]; omega⟩
          · have hir : i = r.length := by omega
            have q1 : ¬ (i : Int) < (r.length : Int) := by omega
            have hm2 := HMI.out
            rw [hir, List.take_length] at hm2
            have HM2 := Lib.hid hm2
            have HNQ := Lib.hid (show Q = (if (SL.chkS M.ts M.rs cores (S.drop (t + 1)) (t + 1) (SL.bump js1 (r.map Int.toNat))).2 = 0 then (ms ++ SL.begMs M.ts t 0 js) ++ (SL.chkS M.ts M.rs cores (S.drop (t + 1)) (t + 1) (SL.bump js1 (r.map Int.toNat))).1 else [], (SL.chkS M.ts M.rs cores (S.drop (t + 1)) (t + 1) (SL.bump js1 (r.map Int.toNat))).2) by
              rw [HQ3.out]
              by_cases h0 : (SL.chkS M.ts M.rs cores (S.drop (t + 1)) (t + 1) (SL.bump js1 (r.map Int.toNat))).2 = 0
              · simp only [h0, if_true, List.append_assoc]
              · simp only [h0, if_false])
            clear hmi hm2 hir
            have HN5 := Lib.hid (show ∃ (t' : Nat), t' ≤ S.length ∧ (Value.int .i64 ((t : Int) + 1)) = .int .i64 (t' : Int) ∧ ∃ (js' : List Jb) (mv' : Value) (ms' : List Ms), MInv w1 M gm gj js' mv' ms' wr ∧ ms'.length ≤ 40 * t' ∧ Q = (if (SL.chkS M.ts M.rs cores (S.drop t') t' js').2 = 0 then ms' ++ (SL.chkS M.ts M.rs cores (S.drop t') t' js').1 else [], (SL.chkS M.ts M.rs cores (S.drop t') t' js').2) from
              ⟨t + 1, hlt, by simp, _, mv1, _, HM2.out, by rw [List.length_append]; omega, HNQ.out⟩)
            go_wp2_with fail
            refine ⟨?_, by simp [intOf]; omega⟩
            exact ⟨_, _, _, _, _, _, _, HN5.out, rfl, rfl, rfl, rfl, rfl, rfl, rfl⟩
      · have hq := HQ2.out
        rw [if_neg he] at hq
        simp only at hq
        have hne : ((SL.chkRow M.ts cores js1 r : Int) != 0) = true := by simp; omega
        generalize SL.chkRow M.ts cores js1 r = ec at *
        rw [if_neg he] at hq
        have HQ3 := Lib.hid hq
        clear hq HQ2 he
        go_wp2_with fail
        refine HCK.out.mono ?_
        rintro e w5 ⟨rfl, q5, hw5⟩
        have HB5 := Lib.hid (show Below w.heap.size w w5 by rw [hw5]; exact below_drewN (HB1.out.trans (HI4.out.be.mono HB1.out.size)) q5)
        clear hw5 HCK HI4
        go_wp2_with fail
        go_ret2
        refine ⟨.slice none 0 0, by rw [HQ3.out]; rfl, ?_, HB5.out⟩
        rw [HQ3.out]
        exact World.ownsRow_nil _ _ _ _
    · have htn' : t = S.length := by omega
      have q0 : ¬ (t : Int) < (S.length : Int) := by omega
      rw [List.drop_eq_nil_of_le (by omega), SL.chkS] at hq
      simp only [if_true] at hq
      have HBG := Lib.hid (begin_any w1 M HMC1.out gm gj js mv ms t (by omega) (by omega) wr hI)
      have HQ2 := Lib.hid hq
      have hts : (t : Int) = (S.length : Int) := by omega
      rw [hts] at HBG
      clear hI hq HREL
      go_wp2_with fail
      refine HBG.out.mono ?_
      rintro e w4 ⟨rfl, ⟨mv1, hI4⟩, _⟩
      have m3 : w4.cell? ⟨gm, 3, none⟩ = some mv1 := hI4.bm.cell 3
      have HI4 := Lib.hid hI4
      clear hI4 HBG
      go_wp2_with fail
      go_ret2
      refine ⟨mv1, by rw [HQ2.out]; rfl, ?_, HB1.out.trans (HI4.out.be.mono HB1.out.size)⟩
      rw [HQ2.out]
      have h := own_base HI4.out.bs HB1.out.size
      rw [← hts] at h
      exact h
end
end Go.Proofs.Ytgfojgabobakdaa
