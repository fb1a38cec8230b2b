/- The auditor: release, run. -/
import Derived.Test.YtpmbhdheeaejgaaGreatDoorAuB
import Derived.BigRegion
namespace Go.Proofs.YtpmbhdheeaejgaaGreatDoor
open Go.RowKit Go.Maps
open SL (Tk Cd)
open AU (Pr Rq Ev Mo)
theorem Blk.eight {W : World} {g : Nat} {T : TypeId} {a b c d e f g' h' : Value} (h : Blk W g T #[a, b, c, d, e, f, g', h']) :
    W.cell? ⟨g, 0, none⟩ = some a ∧ W.cell? ⟨g, 1, none⟩ = some b ∧ W.cell? ⟨g, 2, none⟩ = some c ∧ W.cell? ⟨g, 3, none⟩ = some d ∧ W.cell? ⟨g, 4, none⟩ = some e ∧ W.cell? ⟨g, 5, none⟩ = some f ∧ W.cell? ⟨g, 6, none⟩ = some g' ∧ W.cell? ⟨g, 7, none⟩ = some h' := ⟨h.cell 0, h.cell 1, h.cell 2, h.cell 3, h.cell 4, h.cell 5, h.cell 6, h.cell 7⟩
section
set_option maxHeartbeats 2000000
set_option maxRecDepth 100000
theorem release_any {B : World} {X : Aud} (hx : AudOk B X) {gm gp : Nat} {m : Mo} {w : World} (hI : AInv B X gm gp m w) (e : Ev) (k : Nat) (t : Tk) (p : Pr) (he : e.task = (k : Int)) (ht : X.ts[k]? = some t) (hp : m.ps[k]? = some p) (hb : AU.OkP X.n m.slot 1000000000 t p) (hs : m.slot ≤ 100000) (R : Bool) (hR : R = (!(decide ((k : Int) ≤ m.last) || p.live || (decide (0 < p.jobs) && decide ((m.slot : Int) - p.rel < t.per))) && decide (e.job = p.jobs) && decide (e.core = -1) && decide (e.value = 0))) :
    Calls Tryz.prog 44 #[.pointer (some ⟨gm, 0, none⟩), .agg (evV e)] w fun r w' => r = .returned (.bool (R)) ∧ Gr w w' := by
  have hk : k < X.ts.length := (List.getElem?_eq_some_iff.1 ht).1
  have q0 : (k : Int) < (X.ts.length : Int) := by omega
  have h40 := hx.len
  obtain ⟨b1, b2, b3, b4, b5, b6, b7⟩ := hb
  obtain ⟨v1, v2, v3⟩ := SL.okTk_iff.1 (hx.ok t (List.mem_of_getElem? ht))
  rw [show evV e = #[.int .i64 e.slot, .int .i64 e.core, .int .i64 (k : Int), .int .i64 e.job, .int .u8 (e.kind : Int), .int .i64 e.value, .int .i64 e.cycle, .int .i64 e.port] from by unfold evV; rw [he]]
  have HN := Lib.hid hR
  have hg0 := (Gr.refl w).alloc (.cells #[.int .i64 e.slot, .int .i64 e.core, .int .i64 (k : Int), .int .i64 e.job, .int .u8 (e.kind : Int), .int .i64 e.value, .int .i64 e.cycle, .int .i64 e.port] 26)
  have hk0 : Blk (w.alloc (.cells #[.int .i64 e.slot, .int .i64 e.core, .int .i64 (k : Int), .int .i64 e.job, .int .u8 (e.kind : Int), .int .i64 e.value, .int .i64 e.cycle, .int .i64 e.port] 26)) w.heap.size 26 #[.int .i64 e.slot, .int .i64 e.core, .int .i64 (k : Int), .int .i64 e.job, .int .u8 (e.kind : Int), .int .i64 e.value, .int .i64 e.cycle, .int .i64 e.port] := Blk.new w _ _
  have hi1 := hI.below hg0.1
  have HG1 := Lib.hid hg0
  obtain ⟨tb, to_, hA, _, hT⟩ := hx.task ht
  have HT := Lib.hid hT
  have HXV := Lib.hid (show X.tv = .slice (some ⟨tb, to_, none⟩) X.ts.length X.c by unfold Aud.tv; rw [hA])
  clear hI hg0 hx ht hT hA he hR
  go_enter Tryz.func44, Tryz.ntmps44
  go_wp2_with fail
  generalize w.alloc (.cells #[.int .i64 e.slot, .int .i64 e.core, .int .i64 (k : Int), .int .i64 e.job, .int .u8 (e.kind : Int), .int .i64 e.value, .int .i64 e.cycle, .int .i64 e.port] 26) = w1 at *
  obtain ⟨A, c, kind, hbm, _⟩ := hi1.bm
  have a2 := hbm.cell 2
  simp only [List.getElem?_toArray, List.getElem?_cons_succ, List.getElem?_cons_zero] at a2
  obtain ⟨c0, c1, c2, c3, c4, c5⟩ := pr_cells hi1.bp hp
  obtain ⟨x0, x1, x2, x3, x4, x5, x6, x7⟩ := hk0.eight
  have HI1 := Lib.hid hi1
  have HK1 := Lib.hid hk0
  have hlm := hbm.lt
  have hlp := hi1.bp.lt
  have hle := hk0.lt
  clear hbm hi1 hk0 hp
  go_region
  clear a2 c0 c1 c2 c3 c4 c5 x0 x1 x2 x3 x4 x5 x6 x7 hlm hlp hle
  have HG2 := Lib.hid ((HG1.out.alloc (.cells #[.int .i64 (p.jobs : Int), .bool p.live, .int .i64 p.rel, .int .i64 p.ran, .int .i64 p.last, .int .i64 p.core] 93)).drew)
  have hi2 : AInv B X gm gp m ((w1.alloc (.cells #[.int .i64 (p.jobs : Int), .bool p.live, .int .i64 p.rel, .int .i64 p.ran, .int .i64 p.last, .int .i64 p.core] 93)).drew) := HI1.out.below (((Gr.refl w1).alloc (.cells #[.int .i64 (p.jobs : Int), .bool p.live, .int .i64 p.rel, .int .i64 p.ran, .int .i64 p.last, .int .i64 p.core] 93)).drew).1
  have hk2 : Blk ((w1.alloc (.cells #[.int .i64 (p.jobs : Int), .bool p.live, .int .i64 p.rel, .int .i64 p.ran, .int .i64 p.last, .int .i64 p.core] 93)).drew) w.heap.size 26 #[.int .i64 e.slot, .int .i64 e.core, .int .i64 (k : Int), .int .i64 e.job, .int .u8 (e.kind : Int), .int .i64 e.value, .int .i64 e.cycle, .int .i64 e.port] := HK1.out.below (((Gr.refl w1).alloc (.cells #[.int .i64 (p.jobs : Int), .bool p.live, .int .i64 p.rel, .int .i64 p.ran, .int .i64 p.last, .int .i64 p.core] 93)).drew).1
  have hp2 : Blk ((w1.alloc (.cells #[.int .i64 (p.jobs : Int), .bool p.live, .int .i64 p.rel, .int .i64 p.ran, .int .i64 p.last, .int .i64 p.core] 93)).drew) w1.heap.size 93 #[.int .i64 (p.jobs : Int), .bool p.live, .int .i64 p.rel, .int .i64 p.ran, .int .i64 p.last, .int .i64 p.core] := (Blk.new w1 _ _).drewN 1
  have HI2 := Lib.hid hi2
  have HK2 := Lib.hid hk2
  have HP2 := Lib.hid hp2
  clear HI1 HK1 HG1 hi2 hk2 hp2
  go_wp2_with fail
  generalize (w1.alloc (.cells #[.int .i64 (p.jobs : Int), .bool p.live, .int .i64 p.rel, .int .i64 p.ran, .int .i64 p.last, .int .i64 p.core] 93)).drew = w2 at *
  obtain ⟨A, c, kind, hbm, _⟩ := HI2.out.bm
  rw [HXV.out] at hbm
  have a0 := hbm.cell 0
  have a3 := hbm.cell 3
  have a6 := hbm.cell 6
  simp only [List.getElem?_toArray, List.getElem?_cons_succ, List.getElem?_cons_zero] at a0 a3 a6
  obtain ⟨p0, p1, p2, p3, p4, p5⟩ := HP2.out.six
  obtain ⟨x0, x1, x2, x3, x4, x5, x6, x7⟩ := HK2.out.eight
  obtain ⟨_, _, t2⟩ := HT.out w2 HI2.out.be
  clear hbm HI2 HP2 HK2 HXV HT
  have z1 : IntKind.i64.wrap ((m.slot : Int) - p.rel) = (m.slot : Int) - p.rel := IntWalk.i64_in _ (by omega)
  generalize p.live = lv at *
  by_cases h1 : (k : Int) ≤ m.last
  · have d1 : decide ((k : Int) ≤ m.last) = true := decide_eq_true h1
    have HR := Lib.hid (show R = false by rw [HN.out]; simp [d1])
    clear HN h1
    go_quiet (fail)
    go_wp2_with fail
    go_ret
    rw [HR.out]
    exact ⟨rfl, HG2.out.drewN _⟩
  · have d1 : decide ((k : Int) ≤ m.last) = false := decide_eq_false h1
    cases lv with
    | true =>
      have HR := Lib.hid (show R = false by rw [HN.out]; simp [d1])
      clear HN h1
      go_quiet (fail)
      go_wp2_with fail
      go_ret
      rw [HR.out]
      exact ⟨rfl, HG2.out.drewN _⟩
    | false =>
      by_cases h3 : 0 < p.jobs
      · have d3 : decide (0 < p.jobs) = true := decide_eq_true h3
        by_cases h4 : (m.slot : Int) - p.rel < t.per
        · have d4 : decide ((m.slot : Int) - p.rel < t.per) = true := decide_eq_true h4
          have HR := Lib.hid (show R = false by rw [HN.out]; simp [d1, d3, d4])
          clear HN h1 h3 h4
          go_quiet (fail)
          go_wp2_with fail
          go_ret
          rw [HR.out]
          exact ⟨rfl, HG2.out.drewN _⟩
        · have d4 : decide ((m.slot : Int) - p.rel < t.per) = false := decide_eq_false h4
          by_cases q1 : e.job = (p.jobs : Int)
          · have f1 : (e.job == (p.jobs : Int)) = true := by simp [q1]
            have f1' : decide (e.job = (p.jobs : Int)) = true := decide_eq_true q1
            by_cases q2 : e.core = (-1)
            · have f2 : (e.core == (-1)) = true := by simp [q2]
              have f2' : decide (e.core = (-1)) = true := decide_eq_true q2
              by_cases q3 : e.value = 0
              · have f3 : (e.value == 0) = true := by simp [q3]
                have f3' : decide (e.value = 0) = true := decide_eq_true q3
                have HR := Lib.hid (show R = true by rw [HN.out]; simp [d1, d3, d4, f1', f2', f3'])
                clear HN h1 h3 h4 q1 q2 q3 f1' f2' f3'
                go_quiet (fail)
                go_wp2_with fail
                go_ret
                rw [HR.out]
                exact ⟨rfl, HG2.out.drewN _⟩
              · have f3 : (e.value == 0) = false := by simp [q3]
                have f3' : decide (e.value = 0) = false := decide_eq_false q3
                have HR := Lib.hid (show R = false by rw [HN.out]; simp [d1, d3, d4, f1', f2', f3'])
                clear HN h1 h3 h4 q1 q2 q3 f1' f2' f3'
                go_quiet (fail)
                go_wp2_with fail
                go_ret
                rw [HR.out]
                exact ⟨rfl, HG2.out.drewN _⟩
            · have f2 : (e.core == (-1)) = false := by simp [q2]
              have f2' : decide (e.core = (-1)) = false := decide_eq_false q2
              have HR := Lib.hid (show R = false by rw [HN.out]; simp [d1, d3, d4, f1', f2'])
              clear HN h1 h3 h4 q1 q2 f1' f2'
              go_quiet (fail)
              go_wp2_with fail
              go_ret
              rw [HR.out]
              exact ⟨rfl, HG2.out.drewN _⟩
          · have f1 : (e.job == (p.jobs : Int)) = false := by simp [q1]
            have f1' : decide (e.job = (p.jobs : Int)) = false := decide_eq_false q1
            have HR := Lib.hid (show R = false by rw [HN.out]; simp [d1, d3, d4, f1'])
            clear HN h1 h3 h4 q1 f1'
            go_quiet (fail)
            go_wp2_with fail
            go_ret
            rw [HR.out]
            exact ⟨rfl, HG2.out.drewN _⟩
      · have d3 : decide (0 < p.jobs) = false := decide_eq_false h3
        by_cases q1 : e.job = (p.jobs : Int)
        · have f1 : (e.job == (p.jobs : Int)) = true := by simp [q1]
          have f1' : decide (e.job = (p.jobs : Int)) = true := decide_eq_true q1
          by_cases q2 : e.core = (-1)
          · have f2 : (e.core == (-1)) = true := by simp [q2]
            have f2' : decide (e.core = (-1)) = true := decide_eq_true q2
            by_cases q3 : e.value = 0
            · have f3 : (e.value == 0) = true := by simp [q3]
              have f3' : decide (e.value = 0) = true := decide_eq_true q3
              have HR := Lib.hid (show R = true by rw [HN.out]; simp [d1, d3, f1', f2', f3'])
              clear HN h1 h3 q1 q2 q3 f1' f2' f3'
              go_quiet (fail)
              go_wp2_with fail
              go_ret
              rw [HR.out]
              exact ⟨rfl, HG2.out.drewN _⟩
            · have f3 : (e.value == 0) = false := by simp [q3]
              have f3' : decide (e.value = 0) = false := decide_eq_false q3
              have HR := Lib.hid (show R = false by rw [HN.out]; simp [d1, d3, f1', f2', f3'])
              clear HN h1 h3 q1 q2 q3 f1' f2' f3'
              go_quiet (fail)
              go_wp2_with fail
              go_ret
              rw [HR.out]
              exact ⟨rfl, HG2.out.drewN _⟩
          · have f2 : (e.core == (-1)) = false := by simp [q2]
            have f2' : decide (e.core = (-1)) = false := decide_eq_false q2
            have HR := Lib.hid (show R = false by rw [HN.out]; simp [d1, d3, f1', f2'])
            clear HN h1 h3 q1 q2 f1' f2'
            go_quiet (fail)
            go_wp2_with fail
            go_ret
            rw [HR.out]
            exact ⟨rfl, HG2.out.drewN _⟩
        · have f1 : (e.job == (p.jobs : Int)) = false := by simp [q1]
          have f1' : decide (e.job = (p.jobs : Int)) = false := decide_eq_false q1
          have HR := Lib.hid (show R = false by rw [HN.out]; simp [d1, d3, f1'])
          clear HN h1 h3 q1 f1'
          go_quiet (fail)
          go_wp2_with fail
          go_ret
          rw [HR.out]
          exact ⟨rfl, HG2.out.drewN _⟩
end
end Go.Proofs.YtpmbhdheeaejgaaGreatDoor
