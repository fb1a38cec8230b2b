/- The start of a slot: deadlines, then releases. -/
import Derived.Test.YtdlbokcndbbgnaaSlD
import Derived.BigRegion
import Derived.StillTailTactics
namespace Go.Proofs.Ytdlbokcndbbgnaa
open Go.RowKit Go.Maps
open SL (Tk Jb Ms Cd)
section
set_option maxHeartbeats 2000000
set_option maxRecDepth 100000
theorem begin_any (B : World) (M : Mdl) (hmc : MC B M) (gm gj : Nat) (js : List Jb) (mv : Value) (ms : List Ms) (slot : Nat) (hs : slot ≤ 100000) (hm : ms.length ≤ 1000000000) (w : World) (hI : MInv B M gm gj js mv ms w) :
    Calls Try.prog 24 #[.pointer (some ⟨gm, 0, none⟩), .int .i64 (slot : Int)] w fun e w' => e = .returned (.tuple #[]) ∧ (∃ mv', MInv B M gm gj (SL.begJs M.ts M.rs slot js) mv' (ms ++ SL.begMs M.ts slot 0 js) w') ∧ FxT beT w w' := by
  obtain ⟨i1, ki, kz0, kz1, kz2⟩ := info_parts infoMs
  have K0 := Lib.hid ki
  have K1 := Lib.hid kz0
  have K2 := Lib.hid kz1
  have K3 := Lib.hid kz2
  have HMC := Lib.hid hmc
  have HI0 := Lib.hid hI
  have hl40 : M.ts.length ≤ 40 := by have := hmc.ok; unfold SL.okTs at this; simp at this; exact this.1
  have m0 : w.cell? ⟨gm, 2, none⟩ = some (.slice (some ⟨gj, 0, none⟩) M.ts.length M.ts.length) := hI.bm.cell 2
  have HJL := Lib.hid hI.jl
  have HST := Lib.hid (show ∃ (k : Nat) (mv' : Value), k ≤ M.ts.length ∧ (Value.int .i64 0) = .int .i64 (k : Int) ∧ MInv B M gm gj (SL.begJs (M.ts.take k) (M.rs.take k) slot (js.take k) ++ js.drop k) mv' (ms ++ SL.begMs (M.ts.take k) slot 0 (js.take k)) w ∧ FxT beT w w from ⟨0, mv, Nat.zero_le _, rfl, by simpa [SL.begJs, SL.begMs] using hI, FxT.refl _ _⟩)
  clear ki kz0 kz1 kz2 hmc hI
  go_enter Try.func24, Try.ntmps24
  go_wp2_with fail
  go_loopw [12] (fun v wr => ∃ (k : Nat) (mv' : Value), k ≤ M.ts.length ∧ v = .int .i64 (k : Int) ∧ MInv B M gm gj (SL.begJs (M.ts.take k) (M.rs.take k) slot (js.take k) ++ js.drop k) mv' (ms ++ SL.begMs (M.ts.take k) slot 0 (js.take k)) wr ∧ FxT beT w wr) (fun v _ => M.ts.length - (intOf v).toNat)
  case atStart => exact HST.out
  case round =>
    obtain ⟨k, mv', hk, rfl, hinv, hfx⟩ := hrel
    have HI := Lib.hid hinv
    have HF := Lib.hid hfx
    clear m0 hinv hfx
    by_cases hlt : k < M.ts.length
    · have q0 : (k : Int) < (M.ts.length : Int) := by omega
      obtain ⟨t, ht⟩ : ∃ t, M.ts[k]? = some t := ⟨_, List.getElem?_eq_getElem hlt⟩
      obtain ⟨r, hr⟩ : ∃ r, M.rs[k]? = some r := ⟨_, List.getElem?_eq_getElem (by rw [HMC.out.len]; exact hlt)⟩
      obtain ⟨j, hj⟩ : ∃ j, js[k]? = some j := ⟨_, List.getElem?_eq_getElem (by rw [HJL.out]; exact hlt)⟩
      have hD : (SL.begJs (M.ts.take k) (M.rs.take k) slot (js.take k)).length = k := by
        have h1 := HMC.out.len
        have h2 := HJL.out
        rw [SL.begJs_len _ _ _ _ (by simp; omega) (by simp; omega), List.length_take]; omega
      have hdr : js.drop k = j :: js.drop (k + 1) := by
        obtain ⟨h1, h2⟩ := List.getElem?_eq_some_iff.1 hj
        rw [← h2]; exact List.drop_eq_getElem_cons h1
      have hnext : SL.begJs (M.ts.take (k + 1)) (M.rs.take (k + 1)) slot (js.take (k + 1)) ++ js.drop (k + 1) = SL.begJs (M.ts.take k) (M.rs.take k) slot (js.take k) ++ SL.begJ t r slot j :: js.drop (k + 1) := by
        rw [begJs_take M.ts M.rs slot js k t r j ht hr hj, List.append_assoc]; rfl
      have hmn : ms ++ SL.begMs (M.ts.take (k + 1)) slot 0 (js.take (k + 1)) = (ms ++ SL.begMs (M.ts.take k) slot 0 (js.take k)) ++ SL.begM t slot k j := by
        rw [begMs_take M.ts slot 0 js k t j ht hj, List.append_assoc, Nat.zero_add]
      have hi := HI.out
      rw [hdr] at hi
      have htk : SL.okTk t = true := by
        have := HMC.out.ok; unfold SL.okTs at this; simp only [Bool.and_eq_true, List.all_eq_true] at this
        exact this.2 t (List.mem_of_getElem? ht)
      obtain ⟨v1, v2, v3⟩ := SL.okTk_iff.1 htk
      have hml : (ms ++ SL.begMs (M.ts.take k) slot 0 (js.take k)).length ≤ 1000000040 := by
        have h2 := begMs_len (M.ts.take k) slot 0 (js.take k)
        rw [List.length_append]
        rw [List.length_take] at h2
        omega
      generalize SL.begJs (M.ts.take k) (M.rs.take k) slot (js.take k) = D at *
      generalize ms ++ SL.begMs (M.ts.take k) slot 0 (js.take k) = mk at *
      generalize hRR : js.drop (k + 1) = RR at *
      have HRR := Lib.hid hRR
      have hjk : (D ++ j :: RR)[k]? = some j := get_mid D RR j k hD
      have HNX := Lib.hid hnext
      have HMN := Lib.hid hmn
      have hoj := hi.ok j (by simp)
      have hrl := okRels_at M.ts M.rs k t r HMC.out.oks ht hr
      obtain ⟨tb, to_, hA, htb, _, _, _⟩ := HMC.out.row.tk ht
      have HT := Lib.hid (fun (W : World) (hb : Below B.heap.size B W) (m : Nat) (hm3 : m < 3) => (show W.cell? ⟨tb, to_ + k * 3 + m, none⟩ = (tkV t)[m]? from by
        obtain ⟨tb', to_', hA', _, h0, h1, h2⟩ := (HMC.out.row.below hb).tk ht
        rw [hA] at hA'
        injection hA' with hA'
        injection hA' with e1 e2
        subst e1 e2
        match m, hm3 with
        | 0, _ => exact h0
        | 1, _ => exact h1
        | 2, _ => exact h2))
      obtain ⟨RA, RC, hsr, hrv, hsl, hrow, hrr⟩ := HMC.out.rel
      obtain ⟨Ai, ci, hsi, hrowi⟩ := hrr k r hr
      obtain ⟨rb, ro, hRA, hrb, _⟩ := hrow.at hsi
      have hRA' : M.rA = some ⟨rb, ro, none⟩ := by
        unfold Mdl.rv at hrv
        injection hrv with e1
        rw [e1, hRA]
      have HR0 := Lib.hid (fun (W : World) (hb : Below B.heap.size B W) => (show W.cell? ⟨rb, ro + k, none⟩ = some (.slice Ai r.length ci) from by
        obtain ⟨rb', ro', hRA2, _, h0⟩ := (hrow.below hb).at hsi
        rw [hRA] at hRA2
        injection hRA2 with hRA2
        injection hRA2 with e1 e2
        subst e1 e2
        exact h0))
      have HA := Lib.hid hA
      have HRA := Lib.hid hRA'
      have HROW := Lib.hid hrowi
      have HRL := Lib.hid hrl
      have HI1 := Lib.hid hi
      have HOJ := Lib.hid hoj
      have HJK := Lib.hid hjk
      have HDL := Lib.hid hD
      clear hRR hD hdr hnext hmn hi htk hjk hoj hrl hA htb hrv hsl hrow hrr hsi hrowi hRA hrb hRA' HI ht hr hj
      have a0 := HI1.out.bm.cell 0
      rw [show M.tv = .slice (some ⟨tb, to_, none⟩) M.ts.length M.c from by unfold Mdl.tv; rw [HA.out]] at a0
      have a1 := HI1.out.bm.cell 1
      rw [show M.rv = .slice (some ⟨rb, ro, none⟩) M.ts.length M.rc from by unfold Mdl.rv; rw [HRA.out, HMC.out.len]] at a1
      have a2 := HI1.out.bm.cell 2
      have a3 := HI1.out.bm.cell 3
      simp only [List.getElem?_toArray, List.getElem?_cons_zero, List.getElem?_cons_succ] at a0 a1 a2 a3
      obtain ⟨c0, c1, c2, c3⟩ := jb_cells HI1.out.bj HJK.out
      have f0 := HI1.out.bj.frozen (k * 4)
      have f1 := HI1.out.bj.frozen (k * 4 + 1)
      have f2 := HI1.out.bj.frozen (k * 4 + 2)
      have f3 := HI1.out.bj.frozen (k * 4 + 3)
      have t1 := HT.out _ HI1.out.be 1 (by omega)
      have t2 := HT.out _ HI1.out.be 2 (by omega)
      have r0 := HR0.out _ HI1.out.be
      simp only [tkV, List.getElem?_toArray, List.getElem?_cons_zero, List.getElem?_cons_succ] at t1 t2
      go_wp2_with fail
      have zz : IntKind.i64.wrap ((slot : Int) - j.rel) = (slot : Int) - j.rel := IntWalk.i64_in _ (by have := HOJ.out.1; have := HOJ.out.2.1; omega)
      have HBJ := Lib.hid (show SL.begJ t r slot j = if r[j.next]? = some (slot : Int) then ⟨true, slot, 0, j.next + 1⟩ else { j with live := j.live && !SL.dead t slot j } from rfl)
      by_cases hlv : j.live = true
      · rw [hlv] at c0
        by_cases hdd : t.per ≤ (slot : Int) - j.rel
        · have d1 : decide (t.per ≤ (slot : Int) - j.rel) = true := decide_eq_true hdd
          have hde : SL.dead t slot j = true := by unfold SL.dead; rw [hlv, d1]; rfl
          have HDE := Lib.hid hde
          clear hde hdd hlv
          go_quiet (fail)
          go_wp2_with fail
          have HI2 := Lib.hid ((HI1.out.drewN nq).mid (j' := { j with live := false }) HDL.out 0 (.bool false) (by omega) rfl HOJ.out)
          have HF2 := Lib.hid ((HF.out.drewN nq).job (HI1.out.drewN nq) (k * 4) (.bool false))
          rw [Nat.add_zero] at HI2
          clear HI1 HF a0 a1 a2 a3 c0 c1 c2 c3 f0 f1 f2 f3 t1 t2 r0
          generalize hW2 : (wr.drewN nq).setCell ⟨gj, k * 4, none⟩ (.bool false) = W2 at *
          clear hW2
          have a0 := HI2.out.bm.cell 0
          rw [show M.tv = .slice (some ⟨tb, to_, none⟩) M.ts.length M.c from by unfold Mdl.tv; rw [HA.out]] at a0
          have a1 := HI2.out.bm.cell 1
          rw [show M.rv = .slice (some ⟨rb, ro, none⟩) M.ts.length M.rc from by unfold Mdl.rv; rw [HRA.out, HMC.out.len]] at a1
          have a2 := HI2.out.bm.cell 2
          have a3 := HI2.out.bm.cell 3
          simp only [List.getElem?_toArray, List.getElem?_cons_zero, List.getElem?_cons_succ] at a0 a1 a2 a3
          obtain ⟨c0, c1, c2, c3⟩ := jb_cells HI2.out.bj (get_mid D RR _ k HDL.out)
          have f0 := HI2.out.bj.frozen (k * 4)
          have f1 := HI2.out.bj.frozen (k * 4 + 1)
          have f2 := HI2.out.bj.frozen (k * 4 + 2)
          have f3 := HI2.out.bj.frozen (k * 4 + 3)
          have t1 := HT.out _ HI2.out.be 1 (by omega)
          have t2 := HT.out _ HI2.out.be 2 (by omega)
          have r0 := HR0.out _ HI2.out.be
          simp only [tkV, List.getElem?_toArray, List.getElem?_cons_zero, List.getElem?_cons_succ] at t1 t2
          by_cases hmi : j.done < t.cost
          · have d2 : decide (j.done < t.cost) = true := decide_eq_true hmi
            have HM1 := Lib.hid (show SL.begM t slot k j = [⟨k, j.rel, j.done⟩] by unfold SL.begM SL.missed; rw [HDE.out, d2]; rfl)
            clear hmi
            go_quiet (fail)
            go_wp2_with fail
            have HI3 := Lib.hid (HI2.out.drewN nq)
            have HF3 := Lib.hid (HF2.out.drewN nq)
            have HBJ2 := Lib.hid (show SL.begJ t r slot j = if r[j.next]? = some (slot : Int) then ⟨true, slot, 0, j.next + 1⟩ else { j with live := false } by rw [HBJ.out, HDE.out]; simp)
            clear HI2 HF2 a0 a1 a2 a3 c0 c1 c2 c3 f0 f1 f2 f3 t1 t2 r0
            generalize W2.drewN nq = W3 at *
            have a0 := HI3.out.bm.cell 0
            rw [show M.tv = .slice (some ⟨tb, to_, none⟩) M.ts.length M.c from by unfold Mdl.tv; rw [HA.out]] at a0
            have a1 := HI3.out.bm.cell 1
            rw [show M.rv = .slice (some ⟨rb, ro, none⟩) M.ts.length M.rc from by unfold Mdl.rv; rw [HRA.out, HMC.out.len]] at a1
            have a2 := HI3.out.bm.cell 2
            have a3 := HI3.out.bm.cell 3
            simp only [List.getElem?_toArray, List.getElem?_cons_zero, List.getElem?_cons_succ] at a0 a1 a2 a3
            obtain ⟨c0, c1, c2, c3⟩ := jb_cells HI3.out.bj (get_mid D RR _ k HDL.out)
            have f0 := HI3.out.bj.frozen (k * 4)
            have f1 := HI3.out.bj.frozen (k * 4 + 1)
            have f2 := HI3.out.bj.frozen (k * 4 + 2)
            have f3 := HI3.out.bj.frozen (k * 4 + 3)
            have t1 := HT.out _ HI3.out.be 1 (by omega)
            have t2 := HT.out _ HI3.out.be 2 (by omega)
            have r0 := HR0.out _ HI3.out.be
            simp only [tkV, List.getElem?_toArray, List.getElem?_cons_zero, List.getElem?_cons_succ] at t1 t2
            have hsB := HI3.out.be.size
            have hlm : gm < W3.heap.size := HI3.out.bm.lt
            have a3a : (W3.alloc (.cells #[.int .i64 (k : Int), .int .i64 j.rel, .int .i64 j.done] 88)).cell? ⟨gm, 3, none⟩ = some mv' := (HI3.out.bm.alloc _).cell 3
            go_region_law (first | (refine step_append_lies _ (by rfl) _ _ 28 (by rfl) B.heap.size 88 i1 (.agg #[.int .i64 0, .int .i64 0, .int .i64 0]) 3 24 Try.underlying28 K0.out K1.out K2.out K3.out (by rfl) (by decide) _ _ _ (by rfl) ((HI3.out.drewN 1).bs.alloc _) ⟨W3.heap.size, 0, none⟩ 1 1 [.int .i64 (k : Int), .int .i64 j.rel, .int .i64 j.done] (by rfl) (by rfl) (World.news_of_block (heap_alloc_new W3.drew _)) (by intro u hu; simp at hu; rcases hu with rfl | rfl | rfl <;> rfl) (by decide) (by unfold maxLen; omega) (by omega) (by simp; omega) (W3.heap.size + 1) (by simp) ?_; intro g cap w7 hown7 hg7 hat7 hlt7; have hgr := (HI3.out.drewN 1).grew hg7; have c7 := hgr.1.cell 3; have f7 := hgr.1.frozen 3; simp only [List.getElem?_toArray, List.getElem?_cons_zero, List.getElem?_cons_succ] at c7; have HGR := Lib.hid hgr; have HG7 := Lib.hid hg7; have HO7 := Lib.hid hown7; clear hgr hg7 hown7))
            all_goals
              obtain ⟨hm1, hm2⟩ := (HI3.out.drewN 1).miss (x := ⟨k, j.rel, j.done⟩) HG7.out rfl HO7.out
              have HFW := Lib.hid ((HF3.out.drewN 1).trans hm2)
              rw [← HM1.out] at hm1
              have HW := Lib.hid hm1
              have ho1 : okJ { j with live := false } := HOJ.out
              have hn1 : ({ j with live := false } : Jb).next = j.next := rfl
              clear hm1 hm2 HI3 HF3 HG7 HO7 HGR c7 f7 a3a hat7 hlt7 a0 a1 a2 a3 c0 c1 c2 c3 f0 f1 f2 f3 t1 t2 r0 HBJ HM1 hlm
              generalize hVV : Value.slice (some ⟨g, 0, none⟩) (mk.length + 1) cap = mv2 at *
              clear hVV
              generalize w7.setCell ⟨gm, 3, none⟩ mv2 = W at *
              generalize mk ++ SL.begM t slot k j = mx at *
              generalize ({ j with live := false } : Jb) = j1 at *
              have HJK1 := Lib.hid (get_mid D RR j1 k HDL.out)
              have a0 := HW.out.bm.cell 0
              rw [show M.tv = .slice (some ⟨tb, to_, none⟩) M.ts.length M.c from by unfold Mdl.tv; rw [HA.out]] at a0
              have a1 := HW.out.bm.cell 1
              rw [show M.rv = .slice (some ⟨rb, ro, none⟩) M.ts.length M.rc from by unfold Mdl.rv; rw [HRA.out, HMC.out.len]] at a1
              have a2 := HW.out.bm.cell 2
              have a3 := HW.out.bm.cell 3
              simp only [List.getElem?_toArray, List.getElem?_cons_zero, List.getElem?_cons_succ] at a0 a1 a2 a3
              obtain ⟨c0, c1, c2, c3⟩ := jb_cells HW.out.bj HJK1.out
              have f0 := HW.out.bj.frozen (k * 4)
              have f1 := HW.out.bj.frozen (k * 4 + 1)
              have f2 := HW.out.bj.frozen (k * 4 + 2)
              have f3 := HW.out.bj.frozen (k * 4 + 3)
              have t1 := HT.out _ HW.out.be 1 (by omega)
              have t2 := HT.out _ HW.out.be 2 (by omega)
              have r0 := HR0.out _ HW.out.be
              simp only [tkV, List.getElem?_toArray, List.getElem?_cons_zero, List.getElem?_cons_succ] at t1 t2
              rw [hn1] at c3
              by_cases hnx : j.next < r.length
              · obtain ⟨x, hx⟩ : ∃ x, r[j.next]? = some x := ⟨_, List.getElem?_eq_getElem hnx⟩
                obtain ⟨ab, ao, hAi, _, cx⟩ := (HROW.out.below (HW.out.be)).at (show (r.map (Value.int .i64))[j.next]? = some (.int .i64 x) by simp [hx])
                rw [hAi] at r0
                have d5 : decide ((j.next : Int) < (r.length : Int)) = true := decide_eq_true (by omega)
                have q5 : (j.next : Int) < (r.length : Int) := by omega
                have HNB := Lib.hid (show j.next + 1 ≤ 10000 by have := HRL.out; unfold SL.okRel at this; simp at this; omega)
                have hbj := HBJ2.out
                rw [hx] at hbj
                by_cases hxs : x = slot
                · have e5 : (x == (slot : Int)) = true := by simp [hxs]
                  rw [if_pos (by rw [hxs])] at hbj
                  have HNJ := Lib.hid hbj
                  have z7 : IntKind.i64.wrap ((j.next : Int) + 1) = (j.next : Int) + 1 := IntWalk.i64_in _ (by have := HOJ.out.2.2.2.2; omega)
                  clear hxs hx hbj HBJ2 hAi hnx
                  have s1 := HW.out.mid (j' := ⟨true, j1.rel, j1.done, j1.next⟩) HDL.out 0 (.bool true) (by omega) rfl ho1
                  have s2 := s1.mid (j' := ⟨true, slot, j1.done, j1.next⟩) HDL.out 1 (.int .i64 (slot : Int)) (by omega) rfl (okJ_mk (by omega) (by omega) ho1.2.2.1 ho1.2.2.2.1 ho1.2.2.2.2)
                  have s3 := s2.mid (j' := ⟨true, slot, 0, j1.next⟩) HDL.out 2 (.int .i64 0) (by omega) rfl (okJ_mk (by omega) (by omega) (by omega) (by omega) ho1.2.2.2.2)
                  have s4 := s3.mid (j' := ⟨true, slot, 0, j.next + 1⟩) HDL.out 3 (.int .i64 ((j.next : Int) + 1)) (by omega) rfl (okJ_mk (by omega) (by omega) (by omega) (by omega) HNB.out)
                  have HF4 := Lib.hid ((((HFW.out.job HW.out (k * 4) (.bool true)).job s1 (k * 4 + 1) (.int .i64 (slot : Int))).job s2 (k * 4 + 2) (.int .i64 0)).job s3 (k * 4 + 3) (.int .i64 ((j.next : Int) + 1)))
                  have HS4 := Lib.hid s4
                  clear s1 s2 s3 s4
                  go_wp2_with fail
                  refine ⟨⟨k + 1, mv2, hlt, by simp, ?_, HF4.out⟩, by simp [intOf]; omega⟩
                  rw [HRR.out, HNX.out, HNJ.out, HMN.out]
                  exact HS4.out
                · have e5 : (x == (slot : Int)) = false := by simp [hxs]
                  rw [if_neg (by simpa using hxs)] at hbj
                  have HNJ := Lib.hid hbj
                  clear hxs hx hbj HBJ2 hAi hnx
                  go_wp2_with fail
                  refine ⟨⟨k + 1, mv2, hlt, by simp, ?_, HFW.out⟩, by simp [intOf]; omega⟩
                  rw [HRR.out, HNX.out, HNJ.out, HMN.out]
                  exact HW.out
              · have d5 : decide ((j.next : Int) < (r.length : Int)) = false := decide_eq_false (by omega)
                have q5 : ¬ (j.next : Int) < (r.length : Int) := by omega
                have hbj := HBJ2.out
                rw [if_neg (by rw [List.getElem?_eq_none (by omega)]; simp)] at hbj
                have HNJ := Lib.hid hbj
                clear hbj HBJ2 hnx
                go_wp2_with fail
                refine ⟨⟨k + 1, mv2, hlt, by simp, ?_, HFW.out⟩, by simp [intOf]; omega⟩
                rw [HRR.out, HNX.out, HNJ.out, HMN.out]
                exact HW.out
          · have d2 : decide (j.done < t.cost) = false := decide_eq_false hmi
            have HM1 := Lib.hid (show SL.begM t slot k j = [] by unfold SL.begM SL.missed; rw [HDE.out, d2]; rfl)
            have HBJ2 := Lib.hid (show SL.begJ t r slot j = if r[j.next]? = some (slot : Int) then ⟨true, slot, 0, j.next + 1⟩ else { j with live := false } by rw [HBJ.out, HDE.out]; simp)
            clear hmi
            go_quiet (fail)
            have HW := Lib.hid (HI2.out.drewN nq)
            have HFW := Lib.hid (HF2.out.drewN nq)
            have ho1 : okJ { j with live := false } := HOJ.out
            have hn1 : ({ j with live := false } : Jb).next = j.next := rfl
            rw [show mk = mk ++ SL.begM t slot k j from by rw [HM1.out, List.append_nil]] at HW
            clear HI2 HF2 a0 a1 a2 a3 c0 c1 c2 c3 f0 f1 f2 f3 t1 t2 r0 HBJ HM1
            generalize W2.drewN nq = W at *
            generalize mk ++ SL.begM t slot k j = mx at *
            generalize ({ j with live := false } : Jb) = j1 at *
            have HJK1 := Lib.hid (get_mid D RR j1 k HDL.out)
            have a0 := HW.out.bm.cell 0
            rw [show M.tv = .slice (some ⟨tb, to_, none⟩) M.ts.length M.c from by unfold Mdl.tv; rw [HA.out]] at a0
            have a1 := HW.out.bm.cell 1
            rw [show M.rv = .slice (some ⟨rb, ro, none⟩) M.ts.length M.rc from by unfold Mdl.rv; rw [HRA.out, HMC.out.len]] at a1
            have a2 := HW.out.bm.cell 2
            have a3 := HW.out.bm.cell 3
            simp only [List.getElem?_toArray, List.getElem?_cons_zero, List.getElem?_cons_succ] at a0 a1 a2 a3
            obtain ⟨c0, c1, c2, c3⟩ := jb_cells HW.out.bj HJK1.out
            have f0 := HW.out.bj.frozen (k * 4)
            have f1 := HW.out.bj.frozen (k * 4 + 1)
            have f2 := HW.out.bj.frozen (k * 4 + 2)
            have f3 := HW.out.bj.frozen (k * 4 + 3)
            have t1 := HT.out _ HW.out.be 1 (by omega)
            have t2 := HT.out _ HW.out.be 2 (by omega)
            have r0 := HR0.out _ HW.out.be
            simp only [tkV, List.getElem?_toArray, List.getElem?_cons_zero, List.getElem?_cons_succ] at t1 t2
            rw [hn1] at c3
            by_cases hnx : j.next < r.length
            · obtain ⟨x, hx⟩ : ∃ x, r[j.next]? = some x := ⟨_, List.getElem?_eq_getElem hnx⟩
              obtain ⟨ab, ao, hAi, _, cx⟩ := (HROW.out.below (HW.out.be)).at (show (r.map (Value.int .i64))[j.next]? = some (.int .i64 x) by simp [hx])
              rw [hAi] at r0
              have d5 : decide ((j.next : Int) < (r.length : Int)) = true := decide_eq_true (by omega)
              have q5 : (j.next : Int) < (r.length : Int) := by omega
              have HNB := Lib.hid (show j.next + 1 ≤ 10000 by have := HRL.out; unfold SL.okRel at this; simp at this; omega)
              have hbj := HBJ2.out
              rw [hx] at hbj
              by_cases hxs : x = slot
              · have e5 : (x == (slot : Int)) = true := by simp [hxs]
                rw [if_pos (by rw [hxs])] at hbj
                have HNJ := Lib.hid hbj
                have z7 : IntKind.i64.wrap ((j.next : Int) + 1) = (j.next : Int) + 1 := IntWalk.i64_in _ (by have := HOJ.out.2.2.2.2; omega)
                clear hxs hx hbj HBJ2 hAi hnx
                have s1 := HW.out.mid (j' := ⟨true, j1.rel, j1.done, j1.next⟩) HDL.out 0 (.bool true) (by omega) rfl ho1
                have s2 := s1.mid (j' := ⟨true, slot, j1.done, j1.next⟩) HDL.out 1 (.int .i64 (slot : Int)) (by omega) rfl (okJ_mk (by omega) (by omega) ho1.2.2.1 ho1.2.2.2.1 ho1.2.2.2.2)
                have s3 := s2.mid (j' := ⟨true, slot, 0, j1.next⟩) HDL.out 2 (.int .i64 0) (by omega) rfl (okJ_mk (by omega) (by omega) (by omega) (by omega) ho1.2.2.2.2)
                have s4 := s3.mid (j' := ⟨true, slot, 0, j.next + 1⟩) HDL.out 3 (.int .i64 ((j.next : Int) + 1)) (by omega) rfl (okJ_mk (by omega) (by omega) (by omega) (by omega) HNB.out)
                have HF4 := Lib.hid ((((HFW.out.job HW.out (k * 4) (.bool true)).job s1 (k * 4 + 1) (.int .i64 (slot : Int))).job s2 (k * 4 + 2) (.int .i64 0)).job s3 (k * 4 + 3) (.int .i64 ((j.next : Int) + 1)))
                have HS4 := Lib.hid s4
                clear s1 s2 s3 s4
                go_wp2_with fail
                refine ⟨⟨k + 1, mv', hlt, by simp, ?_, HF4.out⟩, by simp [intOf]; omega⟩
                rw [HRR.out, HNX.out, HNJ.out, HMN.out]
                exact HS4.out
              · have e5 : (x == (slot : Int)) = false := by simp [hxs]
                rw [if_neg (by simpa using hxs)] at hbj
                have HNJ := Lib.hid hbj
                clear hxs hx hbj HBJ2 hAi hnx
                go_wp2_with fail
                refine ⟨⟨k + 1, mv', hlt, by simp, ?_, HFW.out⟩, by simp [intOf]; omega⟩
                rw [HRR.out, HNX.out, HNJ.out, HMN.out]
                exact HW.out
            · have d5 : decide ((j.next : Int) < (r.length : Int)) = false := decide_eq_false (by omega)
              have q5 : ¬ (j.next : Int) < (r.length : Int) := by omega
              have hbj := HBJ2.out
              rw [if_neg (by rw [List.getElem?_eq_none (by omega)]; simp)] at hbj
              have HNJ := Lib.hid hbj
              clear hbj HBJ2 hnx
              go_wp2_with fail
              refine ⟨⟨k + 1, mv', hlt, by simp, ?_, HFW.out⟩, by simp [intOf]; omega⟩
              rw [HRR.out, HNX.out, HNJ.out, HMN.out]
              exact HW.out
        · have d1 : decide (t.per ≤ (slot : Int) - j.rel) = false := decide_eq_false hdd
          have hde : SL.dead t slot j = false := by unfold SL.dead; rw [hlv, d1]; rfl
          have HM1 := Lib.hid (show SL.begM t slot k j = [] by unfold SL.begM SL.missed; rw [hde]; rfl)
          have HBJ2 := Lib.hid (show SL.begJ t r slot j = if r[j.next]? = some (slot : Int) then ⟨true, slot, 0, j.next + 1⟩ else j by rw [HBJ.out, hde]; simp)
          clear hde hdd hlv
          go_quiet (fail)
          have HW := Lib.hid (HI1.out.drewN nq)
          have HFW := Lib.hid (HF.out.drewN nq)
          have ho1 : okJ j := HOJ.out
          obtain ⟨j1, hj1⟩ : ∃ j1, j1 = j := ⟨_, rfl⟩
          have hn1 : j1.next = j.next := by rw [hj1]
          rw [← hj1] at ho1
          rw [show D ++ j :: RR = D ++ j1 :: RR from by rw [hj1]] at HW
          have hbj := HBJ2.out
          rw [show (if r[j.next]? = some (slot : Int) then (⟨true, slot, 0, j.next + 1⟩ : Jb) else j) = if r[j.next]? = some (slot : Int) then ⟨true, slot, 0, j.next + 1⟩ else j1 from by rw [hj1]] at hbj
          clear HBJ2
          have HBJ2 := Lib.hid hbj
          rw [show mk = mk ++ SL.begM t slot k j from by rw [HM1.out, List.append_nil]] at HW
          clear HI1 HF a0 a1 a2 a3 c0 c1 c2 c3 f0 f1 f2 f3 t1 t2 r0 HBJ HM1 hbj hj1
          generalize wr.drewN nq = W at *
          generalize mk ++ SL.begM t slot k j = mx at *
          have HJK1 := Lib.hid (get_mid D RR j1 k HDL.out)
          have a0 := HW.out.bm.cell 0
          rw [show M.tv = .slice (some ⟨tb, to_, none⟩) M.ts.length M.c from by unfold Mdl.tv; rw [HA.out]] at a0
          have a1 := HW.out.bm.cell 1
          rw [show M.rv = .slice (some ⟨rb, ro, none⟩) M.ts.length M.rc from by unfold Mdl.rv; rw [HRA.out, HMC.out.len]] at a1
          have a2 := HW.out.bm.cell 2
          have a3 := HW.out.bm.cell 3
          simp only [List.getElem?_toArray, List.getElem?_cons_zero, List.getElem?_cons_succ] at a0 a1 a2 a3
          obtain ⟨c0, c1, c2, c3⟩ := jb_cells HW.out.bj HJK1.out
          have f0 := HW.out.bj.frozen (k * 4)
          have f1 := HW.out.bj.frozen (k * 4 + 1)
          have f2 := HW.out.bj.frozen (k * 4 + 2)
          have f3 := HW.out.bj.frozen (k * 4 + 3)
          have t1 := HT.out _ HW.out.be 1 (by omega)
          have t2 := HT.out _ HW.out.be 2 (by omega)
          have r0 := HR0.out _ HW.out.be
          simp only [tkV, List.getElem?_toArray, List.getElem?_cons_zero, List.getElem?_cons_succ] at t1 t2
          rw [hn1] at c3
          by_cases hnx : j.next < r.length
          · obtain ⟨x, hx⟩ : ∃ x, r[j.next]? = some x := ⟨_, List.getElem?_eq_getElem hnx⟩
            obtain ⟨ab, ao, hAi, _, cx⟩ := (HROW.out.below (HW.out.be)).at (show (r.map (Value.int .i64))[j.next]? = some (.int .i64 x) by simp [hx])
            rw [hAi] at r0
            have d5 : decide ((j.next : Int) < (r.length : Int)) = true := decide_eq_true (by omega)
            have q5 : (j.next : Int) < (r.length : Int) := by omega
            have HNB := Lib.hid (show j.next + 1 ≤ 10000 by have := HRL.out; unfold SL.okRel at this; simp at this; omega)
            have hbj := HBJ2.out
            rw [hx] at hbj
            by_cases hxs : x = slot
            · have e5 : (x == (slot : Int)) = true := by simp [hxs]
              rw [if_pos (by rw [hxs])] at hbj
              have HNJ := Lib.hid hbj
              have z7 : IntKind.i64.wrap ((j.next : Int) + 1) = (j.next : Int) + 1 := IntWalk.i64_in _ (by have := HOJ.out.2.2.2.2; omega)
              clear hxs hx hbj HBJ2 hAi hnx
              have s1 := HW.out.mid (j' := ⟨true, j1.rel, j1.done, j1.next⟩) HDL.out 0 (.bool true) (by omega) rfl ho1
              have s2 := s1.mid (j' := ⟨true, slot, j1.done, j1.next⟩) HDL.out 1 (.int .i64 (slot : Int)) (by omega) rfl (okJ_mk (by omega) (by omega) ho1.2.2.1 ho1.2.2.2.1 ho1.2.2.2.2)
              have s3 := s2.mid (j' := ⟨true, slot, 0, j1.next⟩) HDL.out 2 (.int .i64 0) (by omega) rfl (okJ_mk (by omega) (by omega) (by omega) (by omega) ho1.2.2.2.2)
              have s4 := s3.mid (j' := ⟨true, slot, 0, j.next + 1⟩) HDL.out 3 (.int .i64 ((j.next : Int) + 1)) (by omega) rfl (okJ_mk (by omega) (by omega) (by omega) (by omega) HNB.out)
              have HF4 := Lib.hid ((((HFW.out.job HW.out (k * 4) (.bool true)).job s1 (k * 4 + 1) (.int .i64 (slot : Int))).job s2 (k * 4 + 2) (.int .i64 0)).job s3 (k * 4 + 3) (.int .i64 ((j.next : Int) + 1)))
              have HS4 := Lib.hid s4
              clear s1 s2 s3 s4
              go_wp2_with fail
              refine ⟨⟨k + 1, mv', hlt, by simp, ?_, HF4.out⟩, by simp [intOf]; omega⟩
              rw [HRR.out, HNX.out, HNJ.out, HMN.out]
              exact HS4.out
            · have e5 : (x == (slot : Int)) = false := by simp [hxs]
              rw [if_neg (by simpa using hxs)] at hbj
              have HNJ := Lib.hid hbj
              clear hxs hx hbj HBJ2 hAi hnx
              go_wp2_with fail
              refine ⟨⟨k + 1, mv', hlt, by simp, ?_, HFW.out⟩, by simp [intOf]; omega⟩
              rw [HRR.out, HNX.out, HNJ.out, HMN.out]
              exact HW.out
          · have d5 : decide ((j.next : Int) < (r.length : Int)) = false := decide_eq_false (by omega)
            have q5 : ¬ (j.next : Int) < (r.length : Int) := by omega
            have hbj := HBJ2.out
            rw [if_neg (by rw [List.getElem?_eq_none (by omega)]; simp)] at hbj
            have HNJ := Lib.hid hbj
            clear hbj HBJ2 hnx
            go_wp2_with fail
            refine ⟨⟨k + 1, mv', hlt, by simp, ?_, HFW.out⟩, by simp [intOf]; omega⟩
            rw [HRR.out, HNX.out, HNJ.out, HMN.out]
            exact HW.out
      · have hde : SL.dead t slot j = false := by unfold SL.dead; rw [show j.live = false from by simpa using hlv]; rfl
        have HM1 := Lib.hid (show SL.begM t slot k j = [] by unfold SL.begM SL.missed; rw [hde]; rfl)
        have HBJ2 := Lib.hid (show SL.begJ t r slot j = if r[j.next]? = some (slot : Int) then ⟨true, slot, 0, j.next + 1⟩ else j by rw [HBJ.out, hde]; simp)
        rw [show j.live = false from by simpa using hlv] at c0
        clear hde hlv
        go_quiet (fail)
        have HW := Lib.hid (HI1.out.drewN nq)
        have HFW := Lib.hid (HF.out.drewN nq)
        have ho1 : okJ j := HOJ.out
        obtain ⟨j1, hj1⟩ : ∃ j1, j1 = j := ⟨_, rfl⟩
        have hn1 : j1.next = j.next := by rw [hj1]
        rw [← hj1] at ho1
        rw [show D ++ j :: RR = D ++ j1 :: RR from by rw [hj1]] at HW
        have hbj := HBJ2.out
        rw [show (if r[j.next]? = some (slot : Int) then (⟨true, slot, 0, j.next + 1⟩ : Jb) else j) = if r[j.next]? = some (slot : Int) then ⟨true, slot, 0, j.next + 1⟩ else j1 from by rw [hj1]] at hbj
        clear HBJ2
        have HBJ2 := Lib.hid hbj
        rw [show mk = mk ++ SL.begM t slot k j from by rw [HM1.out, List.append_nil]] at HW
        clear HI1 HF a0 a1 a2 a3 c0 c1 c2 c3 f0 f1 f2 f3 t1 t2 r0 HBJ HM1 hbj hj1
        generalize wr.drewN nq = W at *
        generalize mk ++ SL.begM t slot k j = mx at *
        have HJK1 := Lib.hid (get_mid D RR j1 k HDL.out)
        have a0 := HW.out.bm.cell 0
        rw [show M.tv = .slice (some ⟨tb, to_, none⟩) M.ts.length M.c from by unfold Mdl.tv; rw [HA.out]] at a0
        have a1 := HW.out.bm.cell 1
        rw [show M.rv = .slice (some ⟨rb, ro, none⟩) M.ts.length M.rc from by unfold Mdl.rv; rw [HRA.out, HMC.out.len]] at a1
        have a2 := HW.out.bm.cell 2
        have a3 := HW.out.bm.cell 3
        simp only [List.getElem?_toArray, List.getElem?_cons_zero, List.getElem?_cons_succ] at a0 a1 a2 a3
        obtain ⟨c0, c1, c2, c3⟩ := jb_cells HW.out.bj HJK1.out
        have f0 := HW.out.bj.frozen (k * 4)
        have f1 := HW.out.bj.frozen (k * 4 + 1)
        have f2 := HW.out.bj.frozen (k * 4 + 2)
        have f3 := HW.out.bj.frozen (k * 4 + 3)
        have t1 := HT.out _ HW.out.be 1 (by omega)
        have t2 := HT.out _ HW.out.be 2 (by omega)
        have r0 := HR0.out _ HW.out.be
        simp only [tkV, List.getElem?_toArray, List.getElem?_cons_zero, List.getElem?_cons_succ] at t1 t2
        rw [hn1] at c3
        by_cases hnx : j.next < r.length
        · obtain ⟨x, hx⟩ : ∃ x, r[j.next]? = some x := ⟨_, List.getElem?_eq_getElem hnx⟩
          obtain ⟨ab, ao, hAi, _, cx⟩ := (HROW.out.below (HW.out.be)).at (show (r.map (Value.int .i64))[j.next]? = some (.int .i64 x) by simp [hx])
          rw [hAi] at r0
          have d5 : decide ((j.next : Int) < (r.length : Int)) = true := decide_eq_true (by omega)
          have q5 : (j.next : Int) < (r.length : Int) := by omega
          have HNB := Lib.hid (show j.next + 1 ≤ 10000 by have := HRL.out; unfold SL.okRel at this; simp at this; omega)
          have hbj := HBJ2.out
          rw [hx] at hbj
          by_cases hxs : x = slot
          · have e5 : (x == (slot : Int)) = true := by simp [hxs]
            rw [if_pos (by rw [hxs])] at hbj
            have HNJ := Lib.hid hbj
            have z7 : IntKind.i64.wrap ((j.next : Int) + 1) = (j.next : Int) + 1 := IntWalk.i64_in _ (by have := HOJ.out.2.2.2.2; omega)
            clear hxs hx hbj HBJ2 hAi hnx
            have s1 := HW.out.mid (j' := ⟨true, j1.rel, j1.done, j1.next⟩) HDL.out 0 (.bool true) (by omega) rfl ho1
            have s2 := s1.mid (j' := ⟨true, slot, j1.done, j1.next⟩) HDL.out 1 (.int .i64 (slot : Int)) (by omega) rfl (okJ_mk (by omega) (by omega) ho1.2.2.1 ho1.2.2.2.1 ho1.2.2.2.2)
            have s3 := s2.mid (j' := ⟨true, slot, 0, j1.next⟩) HDL.out 2 (.int .i64 0) (by omega) rfl (okJ_mk (by omega) (by omega) (by omega) (by omega) ho1.2.2.2.2)
            have s4 := s3.mid (j' := ⟨true, slot, 0, j.next + 1⟩) HDL.out 3 (.int .i64 ((j.next : Int) + 1)) (by omega) rfl (okJ_mk (by omega) (by omega) (by omega) (by omega) HNB.out)
            have HF4 := Lib.hid ((((HFW.out.job HW.out (k * 4) (.bool true)).job s1 (k * 4 + 1) (.int .i64 (slot : Int))).job s2 (k * 4 + 2) (.int .i64 0)).job s3 (k * 4 + 3) (.int .i64 ((j.next : Int) + 1)))
            have HS4 := Lib.hid s4
            clear s1 s2 s3 s4
            go_wp2_with fail
            refine ⟨⟨k + 1, mv', hlt, by simp, ?_, HF4.out⟩, by simp [intOf]; omega⟩
            rw [HRR.out, HNX.out, HNJ.out, HMN.out]
            exact HS4.out
          · have e5 : (x == (slot : Int)) = false := by simp [hxs]
            rw [if_neg (by simpa using hxs)] at hbj
            have HNJ := Lib.hid hbj
            clear hxs hx hbj HBJ2 hAi hnx
            go_wp2_with fail
            refine ⟨⟨k + 1, mv', hlt, by simp, ?_, HFW.out⟩, by simp [intOf]; omega⟩
            rw [HRR.out, HNX.out, HNJ.out, HMN.out]
            exact HW.out
        · have d5 : decide ((j.next : Int) < (r.length : Int)) = false := decide_eq_false (by omega)
          have q5 : ¬ (j.next : Int) < (r.length : Int) := by omega
          have hbj := HBJ2.out
          rw [if_neg (by rw [List.getElem?_eq_none (by omega)]; simp)] at hbj
          have HNJ := Lib.hid hbj
          clear hbj HBJ2 hnx
          go_wp2_with fail
          refine ⟨⟨k + 1, mv', hlt, by simp, ?_, HFW.out⟩, by simp [intOf]; omega⟩
          rw [HRR.out, HNX.out, HNJ.out, HMN.out]
          exact HW.out
    · have q0 : ¬ (k : Int) < (M.ts.length : Int) := by omega
      have e1 : M.ts.take k = M.ts := List.take_of_length_le (by omega)
      have e2 : M.rs.take k = M.rs := List.take_of_length_le (by have := HMC.out.len; omega)
      have e3 : js.take k = js := List.take_of_length_le (by have := HJL.out; omega)
      have e4 : js.drop k = [] := List.drop_eq_nil_of_le (by have := HJL.out; omega)
      have hi := HI.out
      rw [e1, e2, e3, e4, List.append_nil] at hi
      have HI2 := Lib.hid hi
      clear hi e1 e2 e3 e4 HI
      go_wp2_with fail
      go_end0
      exact ⟨rfl, ⟨mv', HI2.out⟩, HF.out⟩
end
end Go.Proofs.Ytdlbokcndbbgnaa
