/- The auditor: run. -/
import Derived.Test.YtpmbhdheeaejgaaGreatDoorAuC
import Derived.BigRegion
namespace Go.Proofs.YtpmbhdheeaejgaaGreatDoor
open Go.RowKit Go.Maps
open SL (Tk Cd)
open AU (Pr Rq Ev Mo)
section
set_option maxHeartbeats 2000000
set_option maxRecDepth 100000
theorem run_any {B : World} {X : Aud} (hx : AudOk B X) {gm gp : Nat} {m : Mo} {w : World} (hI : AInv B X gm gp m w) (e : Ev) (k : Nat) (t : Tk) (p : Pr) (he : e.task = (k : Int)) (ht : X.ts[k]? = some t) (hp : m.ps[k]? = some p) (hb : AU.OkP X.n m.slot 1000000000 t p) (_hs : m.slot ≤ 100000) (R : Bool) (hR : R = (p.live && !decide (p.ran = 0) && decide (p.last = (m.slot : Int)) && decide (p.core = e.core) && decide ((p.jobs : Int) - 1 = e.job) && (!decide (e.kind = 3) || decide (e.value = 0)))) :
    Calls Tryz.prog 46 #[.pointer (some ⟨gm, 0, none⟩), .agg (evV e)] w fun r w' => r = .returned (.bool (R)) ∧ Gr w w' := by
  have hk : k < X.ts.length := (List.getElem?_eq_some_iff.1 ht).1
  have q0 : (k : Int) < (X.ts.length : Int) := by omega
  have h40 := hx.len
  obtain ⟨b1, b2, b3, b4, b5, b6, b7⟩ := hb
  obtain ⟨v1, v2, v3⟩ := SL.okTk_iff.1 (hx.ok t (List.mem_of_getElem? ht))
  rw [show evV e = #[.int .i64 e.slot, .int .i64 e.core, .int .i64 (k : Int), .int .i64 e.job, .int .u8 (e.kind : Int), .int .i64 e.value, .int .i64 e.cycle, .int .i64 e.port] from by unfold evV; rw [he]]
  have HN := Lib.hid hR
  have hg0 := (Gr.refl w).alloc (.cells #[.int .i64 e.slot, .int .i64 e.core, .int .i64 (k : Int), .int .i64 e.job, .int .u8 (e.kind : Int), .int .i64 e.value, .int .i64 e.cycle, .int .i64 e.port] 26)
  have hk0 : Blk (w.alloc (.cells #[.int .i64 e.slot, .int .i64 e.core, .int .i64 (k : Int), .int .i64 e.job, .int .u8 (e.kind : Int), .int .i64 e.value, .int .i64 e.cycle, .int .i64 e.port] 26)) w.heap.size 26 #[.int .i64 e.slot, .int .i64 e.core, .int .i64 (k : Int), .int .i64 e.job, .int .u8 (e.kind : Int), .int .i64 e.value, .int .i64 e.cycle, .int .i64 e.port] := Blk.new w _ _
  have hi1 := hI.below hg0.1
  have HG1 := Lib.hid hg0
  obtain ⟨tb, to_, hA, _, hT⟩ := hx.task ht
  have HT := Lib.hid hT
  have HXV := Lib.hid (show X.tv = .slice (some ⟨tb, to_, none⟩) X.ts.length X.c by unfold Aud.tv; rw [hA])
  clear hI hg0 hx ht hT hA he hR
  go_enter Tryz.func46, Tryz.ntmps46
  go_wp2_with fail
  generalize w.alloc (.cells #[.int .i64 e.slot, .int .i64 e.core, .int .i64 (k : Int), .int .i64 e.job, .int .u8 (e.kind : Int), .int .i64 e.value, .int .i64 e.cycle, .int .i64 e.port] 26) = w1 at *
  obtain ⟨A, c, kind, hbm, _⟩ := hi1.bm
  have a2 := hbm.cell 2
  simp only [List.getElem?_toArray, List.getElem?_cons_succ, List.getElem?_cons_zero] at a2
  obtain ⟨c0, c1, c2, c3, c4, c5⟩ := pr_cells hi1.bp hp
  obtain ⟨x0, x1, x2, x3, x4, x5, x6, x7⟩ := hk0.eight
  have HI1 := Lib.hid hi1
  have HK1 := Lib.hid hk0
  have hlm := hbm.lt
  have hlp := hi1.bp.lt
  have hle := hk0.lt
  clear hbm hi1 hk0 hp
  go_region
  clear a2 c0 c1 c2 c3 c4 c5 x0 x1 x2 x3 x4 x5 x6 x7 hlm hlp hle
  have HG2 := Lib.hid ((HG1.out.alloc (.cells #[.int .i64 (p.jobs : Int), .bool p.live, .int .i64 p.rel, .int .i64 p.ran, .int .i64 p.last, .int .i64 p.core] 93)).drew)
  have hi2 : AInv B X gm gp m ((w1.alloc (.cells #[.int .i64 (p.jobs : Int), .bool p.live, .int .i64 p.rel, .int .i64 p.ran, .int .i64 p.last, .int .i64 p.core] 93)).drew) := HI1.out.below (((Gr.refl w1).alloc (.cells #[.int .i64 (p.jobs : Int), .bool p.live, .int .i64 p.rel, .int .i64 p.ran, .int .i64 p.last, .int .i64 p.core] 93)).drew).1
  have hk2 : Blk ((w1.alloc (.cells #[.int .i64 (p.jobs : Int), .bool p.live, .int .i64 p.rel, .int .i64 p.ran, .int .i64 p.last, .int .i64 p.core] 93)).drew) w.heap.size 26 #[.int .i64 e.slot, .int .i64 e.core, .int .i64 (k : Int), .int .i64 e.job, .int .u8 (e.kind : Int), .int .i64 e.value, .int .i64 e.cycle, .int .i64 e.port] := HK1.out.below (((Gr.refl w1).alloc (.cells #[.int .i64 (p.jobs : Int), .bool p.live, .int .i64 p.rel, .int .i64 p.ran, .int .i64 p.last, .int .i64 p.core] 93)).drew).1
  have hp2 : Blk ((w1.alloc (.cells #[.int .i64 (p.jobs : Int), .bool p.live, .int .i64 p.rel, .int .i64 p.ran, .int .i64 p.last, .int .i64 p.core] 93)).drew) w1.heap.size 93 #[.int .i64 (p.jobs : Int), .bool p.live, .int .i64 p.rel, .int .i64 p.ran, .int .i64 p.last, .int .i64 p.core] := (Blk.new w1 _ _).drewN 1
  have HI2 := Lib.hid hi2
  have HK2 := Lib.hid hk2
  have HP2 := Lib.hid hp2
  clear HI1 HK1 HG1 hi2 hk2 hp2
  go_wp2_with fail
  generalize (w1.alloc (.cells #[.int .i64 (p.jobs : Int), .bool p.live, .int .i64 p.rel, .int .i64 p.ran, .int .i64 p.last, .int .i64 p.core] 93)).drew = w2 at *
  obtain ⟨A, c, kind, hbm, _⟩ := HI2.out.bm
  have a3 := hbm.cell 3
  simp only [List.getElem?_toArray, List.getElem?_cons_succ, List.getElem?_cons_zero] at a3
  obtain ⟨p0, p1, p2, p3, p4, p5⟩ := HP2.out.six
  obtain ⟨x0, x1, x2, x3, x4, x5, x6, x7⟩ := HK2.out.eight
  clear hbm HI2 HP2 HK2 HXV HT
  have z1 : IntKind.i64.wrap ((p.jobs : Int) - 1) = (p.jobs : Int) - 1 := IntWalk.i64_in _ (by omega)
  generalize p.live = lv at *
  cases lv with
  | false =>
    have HR := Lib.hid (show R = false by rw [HN.out]; simp)
    clear HN
    go_quiet (fail)
    go_wp2_with fail
    go_ret
    rw [HR.out]
    exact ⟨rfl, HG2.out.drewN _⟩
  | true =>
    by_cases q0 : p.ran = 0
    · have f0 : (p.ran == 0) = true := by simp [q0]
      have f0' : decide (p.ran = 0) = true := decide_eq_true q0
      have HR := Lib.hid (show R = false by rw [HN.out]; simp [f0'])
      clear HN q0 f0'
      go_quiet (fail)
      go_wp2_with fail
      go_ret
      rw [HR.out]
      exact ⟨rfl, HG2.out.drewN _⟩
    · have f0 : (p.ran == 0) = false := by simp [q0]
      have f0' : decide (p.ran = 0) = false := decide_eq_false q0
      by_cases q1 : p.last = (m.slot : Int)
      · have f1 : (p.last != (m.slot : Int)) = false := by simp [q1]
        have f1' : decide (p.last = (m.slot : Int)) = true := decide_eq_true q1
        by_cases q2 : p.core = e.core
        · have f2 : (p.core != e.core) = false := by simp [q2]
          have f2' : decide (p.core = e.core) = true := decide_eq_true q2
          by_cases q3 : (p.jobs : Int) - 1 = e.job
          · have f3 : ((p.jobs : Int) - 1 != e.job) = false := by simp [q3]
            have f3' : decide ((p.jobs : Int) - 1 = e.job) = true := decide_eq_true q3
            by_cases q5 : e.kind = 3
            · have f5 : ((e.kind : Int) != 3) = false := by simp [q5]
              have f5' : decide (e.kind = 3) = true := decide_eq_true q5
              by_cases q6 : e.value = 0
              · have f6 : (e.value == 0) = true := by simp [q6]
                have f6' : decide (e.value = 0) = true := decide_eq_true q6
                have HR := Lib.hid (show R = true by rw [HN.out]; simp [f0', f1', f2', f3', f5', f6'])
                clear HN q0 f0' q1 f1' q2 f2' q3 f3' q5 q6 f5' f6'
                go_quiet (fail)
                go_wp2_with fail
                go_ret
                rw [HR.out]
                exact ⟨rfl, HG2.out.drewN _⟩
              · have f6 : (e.value == 0) = false := by simp [q6]
                have f6' : decide (e.value = 0) = false := decide_eq_false q6
                have HR := Lib.hid (show R = false by rw [HN.out]; simp [f0', f1', f2', f3', f5', f6'])
                clear HN q0 f0' q1 f1' q2 f2' q3 f3' q5 q6 f5' f6'
                go_quiet (fail)
                go_wp2_with fail
                go_ret
                rw [HR.out]
                exact ⟨rfl, HG2.out.drewN _⟩
            · have f5 : ((e.kind : Int) != 3) = true := by simp; omega
              have f5' : decide (e.kind = 3) = false := decide_eq_false q5
              have HR := Lib.hid (show R = true by rw [HN.out]; simp [f0', f1', f2', f3', f5'])
              clear HN q0 f0' q1 f1' q2 f2' q3 f3' q5 f5'
              go_quiet (fail)
              go_wp2_with fail
              go_ret
              rw [HR.out]
              exact ⟨rfl, HG2.out.drewN _⟩
          · have f3 : ((p.jobs : Int) - 1 != e.job) = true := by simp [q3]
            have f3' : decide ((p.jobs : Int) - 1 = e.job) = false := decide_eq_false q3
            have HR := Lib.hid (show R = false by rw [HN.out]; simp [f0', f1', f2', f3'])
            clear HN q0 f0' q1 f1' q2 f2' q3 f3'
            go_quiet (fail)
            go_wp2_with fail
            go_ret
            rw [HR.out]
            exact ⟨rfl, HG2.out.drewN _⟩
        · have f2 : (p.core != e.core) = true := by simp [q2]
          have f2' : decide (p.core = e.core) = false := decide_eq_false q2
          have HR := Lib.hid (show R = false by rw [HN.out]; simp [f0', f1', f2'])
          clear HN q0 f0' q1 f1' q2 f2'
          go_quiet (fail)
          go_wp2_with fail
          go_ret
          rw [HR.out]
          exact ⟨rfl, HG2.out.drewN _⟩
      · have f1 : (p.last != (m.slot : Int)) = true := by simp [q1]
        have f1' : decide (p.last = (m.slot : Int)) = false := decide_eq_false q1
        have HR := Lib.hid (show R = false by rw [HN.out]; simp [f0', f1'])
        clear HN q0 f0' q1 f1'
        go_quiet (fail)
        go_wp2_with fail
        go_ret
        rw [HR.out]
        exact ⟨rfl, HG2.out.drewN _⟩
end
end Go.Proofs.YtpmbhdheeaejgaaGreatDoor
