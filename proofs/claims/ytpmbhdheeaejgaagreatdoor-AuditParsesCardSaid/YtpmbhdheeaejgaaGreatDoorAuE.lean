/- The auditor: the late events. -/
import Derived.Test.YtpmbhdheeaejgaaGreatDoorAuD
import Derived.Deep.CutRange
namespace Go.Proofs.YtpmbhdheeaejgaaGreatDoor
open Go.RowKit Go.Maps
open SL (Tk Cd)
open AU (Pr Rq Ev Mo)
theorem infoEv : (Tryz.prog.info? 26).map (fun i => (i.zero, i.size, i.bytes)) = some (some (.agg #[.int .i64 0, .int .i64 0, .int .i64 0, .int .i64 0, .int .u8 0, .int .i64 0, .int .i64 0, .int .i64 0]), 8, 64) := by kernel_rfl
theorem rqC_snoc (slot kind : Nat) (l : List Rq) (r : Rq) : rqC slot kind (l ++ [r]) = rqC slot kind l ++ rqL slot kind r := by
  simp [rqC]
theorem AInv.task {B : World} {X : Aud} (hx : AudOk B X) {gm gp : Nat} {m : Mo} {W : World} (h : AInv B X gm gp m W) {k : Nat} {t : Tk} (ht : X.ts[k]? = some t) :
    ∃ tb to_, W.cell? ⟨gm, 0, none⟩ = some (.slice (some ⟨tb, to_, none⟩) X.ts.length X.c) ∧ W.cell? ⟨tb, to_ + k * 3, none⟩ = some (.string t.name) ∧ W.cell? ⟨tb, to_ + k * 3 + 1, none⟩ = some (.int .i64 t.cost) ∧ W.cell? ⟨tb, to_ + k * 3 + 2, none⟩ = some (.int .i64 t.per) := by
  obtain ⟨tb, to_, hA, _, hT⟩ := hx.task ht
  obtain ⟨A, c, kd, hbm, _⟩ := h.bm
  have a0 := hbm.cell 0
  rw [show X.tv = .slice (some ⟨tb, to_, none⟩) X.ts.length X.c from by unfold Aud.tv; rw [hA]] at a0
  exact ⟨tb, to_, a0, hT W h.be⟩
theorem AInv.cells {B : World} {X : Aud} {gm gp : Nat} {m : Mo} {W : World} (h : AInv B X gm gp m W) :
    W.cell? ⟨gm, 1, none⟩ = some (.int .i64 (X.n : Int)) ∧ W.cell? ⟨gm, 2, none⟩ = some (.slice (some ⟨gp, 0, none⟩) X.ts.length X.ts.length) ∧ W.cell? ⟨gm, 3, none⟩ = some (.int .i64 (m.slot : Int)) ∧ W.cell? ⟨gm, 4, none⟩ = some (.int .i64 (m.phase : Int)) ∧ W.cell? ⟨gm, 6, none⟩ = some (.int .i64 m.last) := by
  obtain ⟨A, c, kd, hbm, _⟩ := h.bm
  exact ⟨hbm.cell 1, hbm.cell 2, hbm.cell 3, hbm.cell 4, hbm.cell 6⟩
section
set_option maxHeartbeats 2000000
set_option maxRecDepth 100000
theorem late_any {B : World} {X : Aud} (hx : AudOk B X) {gm gp : Nat} {m : Mo} {w : World} (hI : AInv B X gm gp m w) (hl : m.ps.length = X.ts.length) (hok : AU.OkPs X.n m.slot 1000000000 X.ts m.ps) (hs : m.slot ≤ 100000) :
    Calls Tryz.prog 42 #[.pointer (some ⟨gm, 0, none⟩)] w fun e w' => ∃ v, e = .returned v ∧ w'.ownsRow w.heap.size 26 8 v (AU.lateL X.ts m.ps m.slot).length (rqC m.slot 6 (AU.lateL X.ts m.ps m.slot)) ∧ Below w.heap.size w w' := by
  obtain ⟨i1, ki, kz0, kz1, kz2⟩ := info_parts infoEv
  have K0 := Lib.hid ki
  have K1 := Lib.hid kz0
  have K2 := Lib.hid kz1
  have K3 := Lib.hid kz2
  have HX := Lib.hid hx
  have HI := Lib.hid hI
  have HOK := Lib.hid hok
  have HL := Lib.hid hl
  have h40 := hx.len
  obtain ⟨_, a2, _, _, _⟩ := hI.cells
  unfold AU.lateL
  rw [hl]
  have hF : ∀ (k : Nat) (t : Tk) (p : Pr), X.ts[k]? = some t → m.ps[k]? = some p → AU.lateF X.ts m.ps m.slot k = if AU.lateB t p m.slot then some ⟨-1, k, (p.jobs : Int) - 1, p.ran⟩ else none := fun k t p h1 h2 => by
    unfold AU.lateF
    rw [h1, h2]
  have HF := Lib.hid hF
  generalize AU.lateF X.ts m.ps m.slot = F at *
  clear ki kz0 kz1 kz2 hI hx hok hl hF
  go_enter Tryz.func42, Tryz.ntmps42
  go_wp2_with fail
  clear a2
  go_loopw [3, 11] (fun v i wr => ∃ k : Nat, k ≤ X.ts.length ∧ i = .int .i64 (k : Int) ∧ wr.ownsRow w.heap.size 26 8 v (AU.overI k F).length (rqC m.slot 6 (AU.overI k F)) ∧ Below w.heap.size w wr) (fun _ i _ => X.ts.length - (intOf i).toNat)
  case atStart => exact ⟨0, Nat.zero_le _, rfl, World.ownsRow_nil _ _ _ _, Below.refl _ _⟩
  case round =>
    obtain ⟨k, hk, rfl, hown, hbw⟩ := hrel
    obtain ⟨A3, c3, rfl⟩ := own_form hown
    have HO := Lib.hid hown
    have HB := Lib.hid hbw
    have hsw := hbw.size
    have HS := AU.overI_succ k F
    have hln := AU.overI_len k F
    generalize hacc : AU.overI k F = acc at *
    have HAC := Lib.hid hacc
    clear hacc
    have HSN := Lib.hid HS
    clear HS
    by_cases hlt : k < X.ts.length
    · have q0 : (k : Int) < (X.ts.length : Int) := by omega
      obtain ⟨t, ht⟩ : ∃ t, X.ts[k]? = some t := ⟨_, List.getElem?_eq_getElem hlt⟩
      obtain ⟨p, hp⟩ : ∃ p, m.ps[k]? = some p := ⟨_, List.getElem?_eq_getElem (by rw [HL.out]; exact hlt)⟩
      have hFk := HF.out k t p ht hp
      obtain ⟨b1, b2, b3, b4, b5, b6, b7⟩ := HOK.out k t p ht hp
      obtain ⟨v1, v2, v3⟩ := SL.okTk_iff.1 (HX.out.ok t (List.mem_of_getElem? ht))
      have hI2 := HI.out.below hbw
      obtain ⟨c0, c1, c2, c3', c4, c5⟩ := pr_cells hI2.bp hp
      have hba := ((Gr.refl wr).alloc (.cells #[.int .i64 (p.jobs : Int), .bool p.live, .int .i64 p.rel, .int .i64 p.ran, .int .i64 p.last, .int .i64 p.core] 93)).1
      have hI3 := hI2.below hba
      have HI3 := Lib.hid hI3
      obtain ⟨tb, to_, a0, _, _, t2⟩ := hI3.task HX.out ht
      obtain ⟨_, _, a3, _, _⟩ := hI3.cells
      obtain ⟨p0, p1, p2, p3, p4, p5⟩ := (Blk.new wr 93 #[.int .i64 (p.jobs : Int), .bool p.live, .int .i64 p.rel, .int .i64 p.ran, .int .i64 p.last, .int .i64 p.core]).six
      have z1 : IntKind.i64.wrap (p.rel + t.per) = p.rel + t.per := IntWalk.i64_in _ (by omega)
      have HEV := Lib.hid (fun (n : Nat) => event_any (HI3.out.below ((Gr.refl (wr.alloc (.cells #[.int .i64 (p.jobs : Int), .bool p.live, .int .i64 p.rel, .int .i64 p.ran, .int .i64 p.last, .int .i64 p.core] 93))).drewN n).1) 6 k (-1) p.ran p HL.out.symm h40 hp b1)
      have hlb : AU.lateB t p m.slot = (p.live && decide (p.rel + t.per ≤ (m.slot : Int))) := rfl
      rw [hlb] at hFk
      have HFK := Lib.hid hFk
      have HOA := Lib.hid (HO.out.alloc (.cells #[.int .i64 (p.jobs : Int), .bool p.live, .int .i64 p.rel, .int .i64 p.ran, .int .i64 p.last, .int .i64 p.core] 93))
      have HBA := Lib.hid (HB.out.alloc hsw (.cells #[.int .i64 (p.jobs : Int), .bool p.live, .int .i64 p.rel, .int .i64 p.ran, .int .i64 p.last, .int .i64 p.core] 93))
      have HP3 := Lib.hid (Blk.new wr 93 #[.int .i64 (p.jobs : Int), .bool p.live, .int .i64 p.rel, .int .i64 p.ran, .int .i64 p.last, .int .i64 p.core])
      clear hown hbw hI2 hI3 hba hFk hlb hp ht
      generalize p.live = lv at *
      go_upto_region 5 with fail
      generalize wr.alloc (.cells #[.int .i64 (p.jobs : Int), .bool lv, .int .i64 p.rel, .int .i64 p.ran, .int .i64 p.last, .int .i64 p.core] 93) = w1 at *
      clear c0 c1 c2 c3' c4 c5
      cases lv with
      | false =>
        have HFN := Lib.hid (show F k = none by rw [HFK.out]; rfl)
        have HSA := Lib.hid (show AU.overI (k + 1) F = acc by rw [HSN.out, HFN.out]; simp)
        clear HFK HSN HEV HP3
        go_quiet (fail)
        go_wp2_with fail
        refine ⟨⟨k + 1, hlt, by simp, ?_, ?_⟩, by simp [intOf]; omega⟩
        · rw [HSA.out]; exact HOA.out
        · exact below_drewN HBA.out _
      | true =>
        by_cases hd : p.rel + t.per ≤ (m.slot : Int)
        · have d1 : decide (p.rel + t.per ≤ (m.slot : Int)) = true := decide_eq_true hd
          have HSA := Lib.hid (show AU.overI (k + 1) F = acc ++ [⟨-1, k, (p.jobs : Int) - 1, p.ran⟩] by rw [HSN.out, HFK.out, d1]; rfl)
          clear HFK HSN hd
          go_quiet (fail)
          have hb2 : Below w.heap.size w (w1.drewN nq) := below_drewN HBA.out _
          have ho2 : (w1.drewN nq).ownsRow w.heap.size 26 8 (.slice A3 acc.length c3) acc.length (rqC m.slot 6 acc) := HOA.out
          have HE2 := Lib.hid (HEV.out nq)
          obtain ⟨_, _, _, p3, _, _⟩ := (HP3.out.drewN nq).six
          have HB2 := Lib.hid hb2
          have HO2 := Lib.hid ho2
          clear hb2 ho2 HEV HOA HBA HP3 HI3
          generalize w1.drewN nq = w2 at *
          rw [show (rqL m.slot 6 ⟨-1, k, (p.jobs : Int) - 1, p.ran⟩).toArray = #[.int .i64 (m.slot : Int), .int .i64 (-1), .int .i64 (k : Int), .int .i64 ((p.jobs : Int) - 1), .int .u8 6, .int .i64 p.ran, .int .i64 0, .int .i64 0] from rfl] at HE2
          go_wp2_with fail
          refine HE2.out.mono ?_
          rintro e w5 ⟨rfl, hg5⟩
          have HO5 := Lib.hid (own_below HO2.out hg5.1)
          have hb5 := HB2.out.trans (hg5.1.mono HB2.out.size)
          have HB5 := Lib.hid hb5
          have hs5 := hb5.size
          clear hg5 hb5 HO2 HB2 HE2 p3
          go_wp2_with (at_builtin; refine wpList_append_own _ rfl _ _ 22 rfl w.heap.size 26 i1 (.agg #[.int .i64 0, .int .i64 0, .int .i64 0, .int .i64 0, .int .u8 0, .int .i64 0, .int .i64 0, .int .i64 0]) 8 64 Tryz.underlying22 K0.out K1.out K2.out K3.out rfl (by decide) _ _ _ rfl (HO5.out.alloc _) ⟨w5.heap.size, 0, none⟩ 1 1 [.int .i64 (m.slot : Int), .int .i64 (-1), .int .i64 (k : Int), .int .i64 ((p.jobs : Int) - 1), .int .u8 6, .int .i64 p.ran, .int .i64 0, .int .i64 0] rfl rfl ?c1 ?c2 ?c3 ?c4 ?c5 ?_)
          case c1 => exact World.news_of_block (cs := #[.int .i64 (m.slot : Int), .int .i64 (-1), .int .i64 (k : Int), .int .i64 ((p.jobs : Int) - 1), .int .u8 6, .int .i64 p.ran, .int .i64 0, .int .i64 0]) (heap_alloc_new w5 _)
          case c2 => intro u hu; simp at hu; rcases hu with rfl | rfl | rfl | rfl | rfl | rfl | rfl | rfl <;> rfl
          case c3 => unfold maxLen; omega
          case c4 => omega
          case c5 => simp; omega
          intro v' w6 hown6 hg6 _
          have hlt6 := (HO5.out.alloc (.cells #[.int .i64 (m.slot : Int), .int .i64 (-1), .int .i64 (k : Int), .int .i64 ((p.jobs : Int) - 1), .int .u8 6, .int .i64 p.ran, .int .i64 0, .int .i64 0] 26)).lt
          have HB6 := Lib.hid (show Below w.heap.size w w6 from Below.grown (HB5.out.alloc hs5 (.cells #[.int .i64 (m.slot : Int), .int .i64 (-1), .int .i64 (k : Int), .int .i64 ((p.jobs : Int) - 1), .int .u8 6, .int .i64 p.ran, .int .i64 0, .int .i64 0] 26)) hg6 (by simp; omega) (fun k hk => (hlt6 k hk).1))
          have HR6 := Lib.hid (show w6.ownsRow w.heap.size 26 8 v' (acc ++ [(⟨-1, k, (p.jobs : Int) - 1, p.ran⟩ : Rq)]).length (rqC m.slot 6 (acc ++ [(⟨-1, k, (p.jobs : Int) - 1, p.ran⟩ : Rq)])) from (by
            rw [rqC_snoc]
            have h := hown6
            simpa [rqL] using h))
          clear hown6 hg6 hlt6
          go_wp2_with fail
          refine ⟨⟨k + 1, hlt, by simp, ?_, HB6.out⟩, by simp [intOf]; omega⟩
          rw [HSA.out]; exact HR6.out
        · have d1 : decide (p.rel + t.per ≤ (m.slot : Int)) = false := decide_eq_false hd
          have HSA := Lib.hid (show AU.overI (k + 1) F = acc by rw [HSN.out, HFK.out, d1]; simp)
          clear HFK HSN HEV HP3 hd
          go_quiet (fail)
          go_wp2_with fail
          refine ⟨⟨k + 1, hlt, by simp, ?_, ?_⟩, by simp [intOf]; omega⟩
          · rw [HSA.out]; exact HOA.out
          · exact below_drewN HBA.out _
    · have q0 : ¬ (k : Int) < (X.ts.length : Int) := by omega
      have hke : k = X.ts.length := by omega
      subst hke
      clear hown hbw HF HI HX HOK
      go_wp2_with fail
      go_ret
      rw [HAC.out]
      exact ⟨_, rfl, HO.out, HB.out⟩
end
end Go.Proofs.YtpmbhdheeaejgaaGreatDoor
