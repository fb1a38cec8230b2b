/- The candidates of a slot. -/
import Derived.Test.YtdlbokcndbbgnaaSlF
import Derived.BigRegion
import Derived.Deep.CutRange
namespace Go.Proofs.Ytdlbokcndbbgnaa
open Go.RowKit Go.Maps
open SL (Tk Jb Ms Cd)
def cdL (c : Cd) : List Value := (cdV c).toList
def cdC (l : List Cd) : List Value := l.flatMap cdL
theorem infoCd : (Try.prog.info? 68).map (fun i => (i.zero, i.size, i.bytes)) = some (some (.agg #[.int .i64 0, .string ⟨#[]⟩, .int .i64 0, .int .i64 0, .int .i64 0, .int .i64 0]), 6, 56) := by kernel_rfl
theorem cands_take : ∀ (ts : List Tk) (i : Nat) (slot : Int) (js : List Jb) (k : Nat) (t : Tk) (j : Jb), ts[k]? = some t → js[k]? = some j →
    SL.cands (ts.take (k + 1)) i slot (js.take (k + 1)) = SL.cands (ts.take k) i slot (js.take k) ++ (if SL.elig t slot j then [SL.mkCd (i + k) t j] else [])
  | [], _, _, _, _, _, _, h, _ => by simp at h
  | _ :: _, _, _, [], _, _, _, _, h => by simp at h
  | t0 :: ts, i, slot, j0 :: js, 0, t, j, h1, h3 => by
    simp at h1 h3; subst h1 h3; simp [SL.cands]
  | t0 :: ts, i, slot, j0 :: js, k + 1, t, j, h1, h3 => by
    rw [List.take_succ_cons, List.take_succ_cons, SL.cands, cands_take ts (i + 1) slot js k t j (by simpa using h1) (by simpa using h3)]
    simp [SL.cands, Nat.add_assoc, Nat.add_comm 1 k]
theorem cands_len : ∀ (ts : List Tk) (i : Nat) (slot : Int) (js : List Jb), (SL.cands ts i slot js).length ≤ ts.length
  | [], _, _, _ => by simp [SL.cands]
  | _ :: _, _, _, [] => by simp [SL.cands]
  | t :: ts, i, slot, j :: js => by
    have := cands_len ts (i + 1) slot js
    rw [SL.cands, List.length_append, List.length_cons]
    have h1 : (if SL.elig t slot j then [SL.mkCd i t j] else []).length ≤ 1 := by split <;> simp
    omega
theorem winR_bound {t : Tk} {i : Int} (hw : SL.okW t i) : 0 ≤ SL.winR t i ∧ SL.winR t i ≤ 1000000 := by
  obtain ⟨hv, hi1, hi2⟩ := hw
  obtain ⟨v1, v2, v3⟩ := SL.okTk_iff.1 hv
  obtain ⟨m1, m2⟩ := prod_bounds (a := i - 1) (b := t.per) (x := 1000) (y := 1000) (by omega) (by omega) (by omega) (by omega)
  exact ⟨Int.ediv_nonneg m1 (by omega), Int.le_trans (Int.ediv_le_self _ m1) (by omega)⟩
section
set_option maxHeartbeats 2000000
set_option maxRecDepth 100000
theorem candidates_any (B : World) (M : Mdl) (hmc : MC B M) (gm gj : Nat) (js : List Jb) (mv : Value) (ms : List Ms) (slot : Nat) (_hs : slot ≤ 100000) (w : World) (hI : MInv B M gm gj js mv ms w) :
    Calls Try.prog 25 #[.pointer (some ⟨gm, 0, none⟩), .int .i64 (slot : Int)] w fun e w' => ∃ v, e = .returned v ∧ w'.ownsRow w.heap.size 68 6 v (SL.cands M.ts 0 slot js).length (cdC (SL.cands M.ts 0 slot js)) ∧ Below w.heap.size w w' := by
  have hnot : ∀ (x : Bool) (w : World), (Op.unary .not (.bool x)).run Try.prog w = .ok (.bool (!x)) w := fun _ _ => rfl
  obtain ⟨i1, ki, kz0, kz1, kz2⟩ := info_parts infoCd
  have K0 := Lib.hid ki
  have K1 := Lib.hid kz0
  have K2 := Lib.hid kz1
  have K3 := Lib.hid kz2
  have HMC := Lib.hid hmc
  have HI := Lib.hid hI
  have h40 := hmc.n40
  have m2 : w.cell? ⟨gm, 2, none⟩ = some (.slice (some ⟨gj, 0, none⟩) M.ts.length M.ts.length) := hI.bm.cell 2
  have hjl := hI.jl
  clear ki kz0 kz1 kz2 hmc hI
  go_enter Try.func25, Try.ntmps25
  go_wp2_with fail
  go_loopw [5, 15] (fun v i wr => ∃ k : Nat, k ≤ M.ts.length ∧ i = .int .i64 (k : Int) ∧ wr.ownsRow w.heap.size 68 6 v (SL.cands (M.ts.take k) 0 slot (js.take k)).length (cdC (SL.cands (M.ts.take k) 0 slot (js.take k))) ∧ Below w.heap.size w wr) (fun _ i _ => M.ts.length - (intOf i).toNat)
  case atStart => exact ⟨0, Nat.zero_le _, rfl, World.ownsRow_nil _ _ _ _, Below.refl _ _⟩
  case round =>
    obtain ⟨k, hk, rfl, hown, hbw⟩ := hrel
    obtain ⟨A5, c5, rfl⟩ := own_form hown
    have HO := Lib.hid hown
    have HB := Lib.hid hbw
    have hsw := hbw.size
    clear m2
    by_cases hlt : k < M.ts.length
    · have q0 : (k : Int) < (M.ts.length : Int) := by omega
      obtain ⟨t, ht⟩ : ∃ t, M.ts[k]? = some t := ⟨_, List.getElem?_eq_getElem hlt⟩
      obtain ⟨j, hj⟩ : ∃ j, js[k]? = some j := ⟨_, List.getElem?_eq_getElem (by omega)⟩
      have hI2 : MInv B M gm gj js mv ms wr := ⟨HI.out.be.trans (hbw.mono HI.out.be.size), HI.out.lom, HI.out.loj, HI.out.bm.below hbw, HI.out.bj.below hbw, own_below HI.out.bs hbw, HI.out.jl, HI.out.ok⟩
      have HI2 := Lib.hid hI2
      have hct := cands_take M.ts 0 slot js k t j ht hj
      have hcl := cands_len (M.ts.take k) 0 slot (js.take k)
      rw [List.length_take] at hcl
      rw [Nat.zero_add] at hct
      generalize SL.cands (M.ts.take k) 0 slot (js.take k) = acc at *
      have HCT := Lib.hid hct
      obtain ⟨c0, c1, c2, c3⟩ := jb_cells hI2.bj hj
      have hba := (Below.refl wr.heap.size wr).alloc (Nat.le_refl _) (.cells #[.bool j.live, .int .i64 j.rel, .int .i64 j.done, .int .i64 (j.next : Int)] 72)
      have hI3 : MInv B M gm gj js mv ms (wr.alloc (.cells #[.bool j.live, .int .i64 j.rel, .int .i64 j.done, .int .i64 (j.next : Int)] 72)) := ⟨hI2.be.trans (hba.mono hI2.be.size), hI2.lom, hI2.loj, hI2.bm.below hba, hI2.bj.below hba, own_below hI2.bs hba, hI2.jl, hI2.ok⟩
      have HPE := Lib.hid (pending_any B M HMC.out gm gj js mv ms k t j ht hj _ hI3)
      have HI3 := Lib.hid hI3
      have HK3 := Lib.hid (show Blk (wr.alloc (.cells #[.bool j.live, .int .i64 j.rel, .int .i64 j.done, .int .i64 (j.next : Int)] 72)) wr.heap.size 72 #[.bool j.live, .int .i64 j.rel, .int .i64 j.done, .int .i64 (j.next : Int)] from Blk.new wr _ _)
      have hel : SL.elig t slot j = (SL.pend t j && decide (j.rel + SL.winR t (j.done + 1) ≤ (slot : Int))) := rfl
      have hpd : SL.pend t j = (j.live && decide (j.done < t.cost)) := rfl
      have hok := HMC.out.okt ht
      have hoj := hI2.ok j (List.mem_of_getElem? hj)
      clear hba hown hbw hct hI2 hI3 hj
      cases hp : SL.pend t j with
      | false =>
        rw [hp] at HPE hel
        have HC2 := Lib.hid (show SL.cands (M.ts.take (k + 1)) 0 slot (js.take (k + 1)) = acc by rw [HCT.out, hel]; simp)
        clear hp hel hpd HCT hok hoj
        go_wp2_with fail
        refine HPE.out.mono ?_
        rintro e w2 ⟨rfl, q, rfl⟩
        go_wp2_with fail
        refine ⟨⟨k + 1, hlt, by simp, ?_, ?_⟩, by simp [intOf]; omega⟩
        · rw [HC2.out]; exact HO.out.alloc _
        · exact below_drewN (HB.out.alloc hsw _) q
      | true =>
        rw [hp] at HPE hel
        rw [hp] at hpd
        have hpd' : j.live = true ∧ j.done < t.cost := by simpa using hpd.symm
        have hw : SL.okW t (j.done + 1) := ⟨hok, by have := hoj.2.2.1; omega, by omega⟩
        obtain ⟨v1, v2, v3⟩ := SL.okTk_iff.1 hok
        have z1 : IntKind.i64.wrap (j.done + 1) = j.done + 1 := IntWalk.i64_in _ (by have := hoj.2.2.1; omega)
        obtain ⟨b1, b2⟩ := winR_bound hw
        have z2 : IntKind.i64.wrap (j.rel + SL.winR t (j.done + 1)) = j.rel + SL.winR t (j.done + 1) := IntWalk.i64_in _ (by have := hoj.1; have := hoj.2.1; omega)
        have HW := Lib.hid (fun W => (show Calls Try.prog 9 #[.agg #[.string t.name, .int .i64 t.cost, .int .i64 t.per], .int .i64 (j.done + 1)] W fun e w' => e = .returned (.tuple #[.agg #[.int .i64 (j.done + 1), .int .i64 (SL.winR t (j.done + 1)), .int .i64 (SL.winD t (j.done + 1))], .int .i64 0]) ∧ Gr W w' from window_any t (j.done + 1) W hw))
        obtain ⟨tb, to_, hA, hT⟩ := HMC.out.task ht
        clear hp hpd hpd' hok hoj hw
        generalize SL.winD t (j.done + 1) = wd at *
        generalize SL.winR t (j.done + 1) = wR at *
        go_wp2_with fail
        refine HPE.out.mono ?_
        rintro e w2 ⟨rfl, q, hw2⟩
        have hI4 := HI3.out.drewN q
        have hk4 := HK3.out.drewN q
        have hb4 : Below w.heap.size w w2 := by rw [hw2]; exact below_drewN (HB.out.alloc hsw _) q
        have ho4 := HO.out.alloc (.cells #[.bool j.live, .int .i64 j.rel, .int .i64 j.done, .int .i64 (j.next : Int)] 72)
        have ho4' : w2.ownsRow w.heap.size 68 6 (.slice A5 acc.length c5) acc.length (cdC acc) := by rw [hw2]; exact ho4
        rw [← hw2] at hI4 hk4
        clear HPE HI3 HK3 ho4 c0 c1 c2 c3 hw2 HI2
        generalize wr.heap.size = gc at *
        have HI4 := Lib.hid hI4
        have HK4 := Lib.hid hk4
        have HB4 := Lib.hid hb4
        have HO4 := Lib.hid ho4'
        have a0 := hI4.bm.cell 0
        rw [show M.tv = .slice (some ⟨tb, to_, none⟩) M.ts.length M.c from by unfold Mdl.tv; rw [hA]] at a0
        simp only [List.getElem?_toArray, List.getElem?_cons_zero] at a0
        obtain ⟨t0, t1, t2⟩ := hT w2 hI4.be
        obtain ⟨k0, k1, k2, k3⟩ := hk4.four.1
        have hlm := hI4.bm.lt
        have hz := (Gr.refl w2).alloc (.cells #[.int .i64 0, .int .i64 0, .int .i64 0] 38)
        obtain ⟨t0a, t1a, t2a⟩ := hT (w2.alloc (.cells #[.int .i64 0, .int .i64 0, .int .i64 0] 38)) (hI4.be.trans (hz.1.mono hI4.be.size))
        have a0a : (w2.alloc (.cells #[.int .i64 0, .int .i64 0, .int .i64 0] 38)).cell? ⟨gm, 0, none⟩ = some (.slice (some ⟨tb, to_, none⟩) M.ts.length M.c) := (hz.1.cell (p := ⟨gm, 0, none⟩) hlm).trans a0
        have k2a : (w2.alloc (.cells #[.int .i64 0, .int .i64 0, .int .i64 0] 38)).cell? ⟨gc, 2, none⟩ = some (.int .i64 j.done) := (hk4.alloc _).cell 2
        have HT := Lib.hid hT
        have HA := Lib.hid hA
        clear hI4 hk4 hb4 ho4' hT hA ht hz
        go_upto_region 6 with fail
        go_cut [8, 9, 15] from 15 to 65 (fun s8 s9 s15 wx => ∃ bs6 : Nat, s15 = .int .i64 (k : Int) ∧ s8 = .pointer (some ⟨bs6, 0, none⟩) ∧ s9 = .int .i64 0 ∧ Blk wx bs6 38 #[.int .i64 (j.done + 1), .int .i64 wR, .int .i64 wd] ∧ Gr w2 wx)
        case first =>
          go_region_law (go_simp; go_at_call 9; (with_reducible refine (HW.out _).mono ?_); rintro e w5 ⟨rfl, hb5⟩; (first | (have hk5 : Blk w5 w2.heap.size 38 #[.int .i64 0, .int .i64 0, .int .i64 0] := Blk.below (show Blk (w2.alloc (.cells #[.int .i64 0, .int .i64 0, .int .i64 0] 38)).drew w2.heap.size _ _ from Blk.new w2 _ _) hb5.1; have HG5 := Lib.hid ((((Gr.refl w2).alloc (.cells #[.int .i64 0, .int .i64 0, .int .i64 0] 38)).drew).trans hb5); obtain ⟨e0, e1, e2⟩ := hk5.three; have g0 := hk5.frozen 0; have g1 := hk5.frozen 1; have g2 := hk5.frozen 2; have HK5 := Lib.hid hk5; clear hk5 hb5) | (have HG5 := Lib.hid (((Gr.refl w2).drew).trans hb5); clear hb5)))
          all_goals
            first
              | (have HS6 := Lib.hid (((HK5.out.set_ 0 (.int .i64 (j.done + 1))).set_ 1 (.int .i64 wR)).set_ 2 (.int .i64 wd))
                 have HG6 := Lib.hid (((HG5.out.set (Nat.le_refl _) 0 (.int .i64 (j.done + 1))).set (Nat.le_refl _) 1 (.int .i64 wR)).set (Nat.le_refl _) 2 (.int .i64 wd))
                 clear e0 e1 e2 g0 g1 g2 HK5 HG5
                 go_wp2_with fail
                 go_meet
                 exact ⟨_, rfl, rfl, rfl, HS6.out, HG6.out⟩)
              | (have HS6 := Lib.hid (Blk.new w5 38 #[.int .i64 (j.done + 1), .int .i64 wR, .int .i64 wd])
                 have HG6 := Lib.hid (HG5.out.alloc (.cells #[.int .i64 (j.done + 1), .int .i64 wR, .int .i64 wd] 38))
                 clear HG5
                 go_wp2_with fail
                 go_meet
                 exact ⟨_, rfl, rfl, rfl, HS6.out, HG6.out⟩)
        case rest =>
          obtain ⟨bs6, rfl, rfl, rfl, hS6, hG6⟩ := hcut
          have HS6 := Lib.hid hS6
          have HG6 := Lib.hid hG6
          clear hS6 hG6 t0 t1 t2 t0a t1a t2a a0 a0a k0 k1 k2 k3 k2a hlm
          generalize wc = W6 at *
          have hb6 := HB4.out.trans (HG6.out.1.mono HB4.out.size)
          have hk6 := HK4.out.below HG6.out.1
          have ho6 := own_below HO4.out HG6.out.1
          have hi6 : Below B.heap.size B W6 := HI4.out.be.trans (HG6.out.1.mono HI4.out.be.size)
          obtain ⟨t0, t1, t2⟩ := HT.out W6 hi6
          have a0 := (HI4.out.bm.below HG6.out.1).cell 0
          rw [show M.tv = .slice (some ⟨tb, to_, none⟩) M.ts.length M.c from by unfold Mdl.tv; rw [HA.out]] at a0
          simp only [List.getElem?_toArray, List.getElem?_cons_zero] at a0
          obtain ⟨_, k1, _, _⟩ := hk6.four.1
          obtain ⟨s0, s1, s2⟩ := HS6.out.three
          have HB6 := Lib.hid hb6
          have HO6 := Lib.hid ho6
          have HL6 := Lib.hid (HI4.out.bm.below HG6.out.1).lt
          have hs6 := hb6.size
          clear hb6 hk6 ho6 hi6 HS6 HG6
          by_cases hd : j.rel + wR ≤ (slot : Int)
          · have d1 : decide (j.rel + wR ≤ (slot : Int)) = true := decide_eq_true hd
            have HC2 := Lib.hid (show SL.cands (M.ts.take (k + 1)) 0 slot (js.take (k + 1)) = acc ++ [SL.mkCd k t j] by rw [HCT.out, hel, d1]; rfl)
            clear hd HCT hel
            go_wp2_with fail
            have hl6 : gm < W6.heap.size := HL6.out
            have HBA := Lib.hid (HB6.out.drew.alloc (show w.heap.size ≤ W6.drew.heap.size from hs6) (.cells #[.int .i64 (k : Int), .string t.name, .int .i64 t.cost, .int .i64 t.per, .int .i64 j.rel, .int .i64 (j.done + 1)] 68))
            have HOA : Hid ((W6.drew.alloc (.cells #[.int .i64 (k : Int), .string t.name, .int .i64 t.cost, .int .i64 t.per, .int .i64 j.rel, .int .i64 (j.done + 1)] 68)).ownsRow w.heap.size 68 6 (.slice A5 acc.length c5) acc.length (cdC acc)) := Lib.hid (World.ownsRow.alloc (show W6.drew.ownsRow w.heap.size 68 6 (.slice A5 acc.length c5) acc.length (cdC acc) from HO6.out) _)
            go_region_law (first | (refine step_append_lies _ (by rfl) _ _ 64 (by rfl) w.heap.size 68 i1 (.agg #[.int .i64 0, .string ⟨#[]⟩, .int .i64 0, .int .i64 0, .int .i64 0, .int .i64 0]) 6 56 Try.underlying64 K0.out K1.out K2.out K3.out (by rfl) (by decide) _ _ _ (by rfl) HOA.out ⟨W6.heap.size, 0, none⟩ 1 1 [.int .i64 (k : Int), .string t.name, .int .i64 t.cost, .int .i64 t.per, .int .i64 j.rel, .int .i64 (j.done + 1)] (by rfl) (by rfl) (World.news_of_block (cs := #[.int .i64 (k : Int), .string t.name, .int .i64 t.cost, .int .i64 t.per, .int .i64 j.rel, .int .i64 (j.done + 1)]) (heap_alloc_new W6.drew _)) (by intro u hu; simp at hu; rcases hu with rfl | rfl | rfl | rfl | rfl | rfl <;> rfl) (by decide) (by unfold maxLen; omega) (by omega) (by simp; omega) (W6.heap.size + 1) (by simp) ?_; intro g cap w8 hown8 hg8 hat8 hlt8; have hB8 : Below w.heap.size w w8 := Below.grown HBA.out hg8 (by simp; omega) (fun k hk => (HOA.out.lt k hk).1)))
            all_goals
              have HB8 := Lib.hid hB8
              have HR8 := Lib.hid (show w8.ownsRow w.heap.size 68 6 (.slice (some ⟨g, 0, none⟩) (acc.length + 1) cap) (acc ++ [SL.mkCd k t j]).length (cdC (acc ++ [SL.mkCd k t j])) from (by
                have h := hown8
                simpa [cdC, cdL, cdV, SL.mkCd] using h))
              clear hown8 hg8 hlt8 hB8 hat8
              go_wp2_with fail
              refine ⟨⟨k + 1, hlt, by simp, ?_, HB8.out⟩, by simp [intOf]; omega⟩
              rw [HC2.out]
              exact HR8.out
          · have d1 : decide (j.rel + wR ≤ (slot : Int)) = false := decide_eq_false hd
            have HC2 := Lib.hid (show SL.cands (M.ts.take (k + 1)) 0 slot (js.take (k + 1)) = acc by rw [HCT.out, hel, d1]; simp)
            clear hd HCT hel
            go_wp2_with fail
            refine ⟨⟨k + 1, hlt, by simp, ?_, HB6.out⟩, by simp [intOf]; omega⟩
            rw [HC2.out]
            exact HO6.out
    · have q0 : ¬ (k : Int) < (M.ts.length : Int) := by omega
      have hown2 := HO.out
      rw [List.take_of_length_le (show M.ts.length ≤ k by omega), List.take_of_length_le (show js.length ≤ k by omega)] at hown2
      have HO2 := Lib.hid hown2
      have hln : (SL.cands (M.ts.take k) 0 slot (js.take k)).length = (SL.cands M.ts 0 slot js).length := by rw [List.take_of_length_le (show M.ts.length ≤ k by omega), List.take_of_length_le (show js.length ≤ k by omega)]
      rw [hln] at *
      clear hown hown2 hbw HO hln
      go_wp2_with fail
      go_ret
      exact ⟨_, rfl, HO2.out, HB.out⟩
end
end Go.Proofs.Ytdlbokcndbbgnaa
