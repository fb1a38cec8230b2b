/- The reference's priorities. -/
import Derived.Test.YtehdgdlndlamjaaSlZ
namespace Go.Proofs.Ytehdgdlndlamjaa
open Go.RowKit Go.Sort
open SL (Tk Jb Ms Cd)
def rcV (c : Cd) : Array Value := #[.int .i64 (c.num : Int), .int .i64 c.tk.cost, .int .i64 c.tk.per, .int .i64 c.rel, .int .i64 c.idx]
section
set_option maxHeartbeats 4000000
set_option maxRecDepth 100000
theorem rbefore_any (a b : Cd) (w : World) (ha : okC a) (hb : okC b) : Calls Try.prog 40 #[.agg (rcV a), .agg (rcV b)] w fun e w' => e = .returned (.bool (SL.bef a b)) ∧ Gr w w' := by
  have mixed : Try.prog.follows .mixedOrders = true := by kernel_rfl
  have HB0 := Lib.hid (((Gr.refl w).alloc (.cells (rcV a) 84)).alloc (.cells (rcV b) 84))
  have hka : Blk ((w.alloc (.cells (rcV a) 84)).alloc (.cells (rcV b) 84)) w.heap.size 84 (rcV a) := (Blk.new w 84 (rcV a)).alloc _
  have hkb : Blk ((w.alloc (.cells (rcV a) 84)).alloc (.cells (rcV b) 84)) (w.heap.size + 1) 84 (rcV b) := blk_second w _ _ _ _
  have HKA := Lib.hid hka
  have HKB := Lib.hid hkb
  have HWA := Lib.hid (fun W => rwindow_any a.tk a.idx W ha.1)
  have HWB := Lib.hid (fun W => rwindow_any b.tk b.idx W hb.1)
  have HOA := Lib.hid (fun W => roverlaps_any a.tk a.idx W ha.1)
  have HOB := Lib.hid (fun W => roverlaps_any b.tk b.idx W hb.1)
  have HHA := Lib.hid (fun W => rheavy_any a.tk W ha.1.1)
  have HHB := Lib.hid (fun W => rheavy_any b.tk W hb.1.1)
  have HGA := Lib.hid (fun (h : SL.heavy a.tk = true) W => rgroup_any a.tk a.idx W ha.1 h)
  have HGB := Lib.hid (fun (h : SL.heavy b.tk = true) W => rgroup_any b.tk b.idx W hb.1 h)
  have HLA := Lib.hid (show ∀ h : SL.heavy a.tk = true, IntKind.i64.wrap (a.rel + SL.grp a.tk a.idx) = a.rel + SL.grp a.tk a.idx from fun h => IntWalk.i64_in _ (by have := grp_bound ha.1 h; have := ha.2; omega))
  have HLB := Lib.hid (show ∀ h : SL.heavy b.tk = true, IntKind.i64.wrap (b.rel + SL.grp b.tk b.idx) = b.rel + SL.grp b.tk b.idx from fun h => IntWalk.i64_in _ (by have := grp_bound hb.1 h; have := hb.2; omega))
  have ba := winD_bound ha.1
  have bb := winD_bound hb.1
  have z1 : IntKind.i64.wrap (a.rel + SL.winD a.tk a.idx) = a.rel + SL.winD a.tk a.idx := IntWalk.i64_in _ (by have := ha.2; omega)
  have z2 : IntKind.i64.wrap (b.rel + SL.winD b.tk b.idx) = b.rel + SL.winD b.tk b.idx := IntWalk.i64_in _ (by have := hb.2; omega)
  have hR : SL.bef a b = SL.befK (a.rel + SL.winD a.tk a.idx) (b.rel + SL.winD b.tk b.idx) (SL.over a.tk a.idx) (SL.over b.tk b.idx) (if SL.heavy a.tk then a.rel + SL.grp a.tk a.idx else 0) (if SL.heavy b.tk then b.rel + SL.grp b.tk b.idx else 0) a.num b.num := rfl
  generalize SL.bef a b = R at *
  rw [show rcV a = #[.int .i64 (a.num : Int), .int .i64 a.tk.cost, .int .i64 a.tk.per, .int .i64 a.rel, .int .i64 a.idx] from rfl, show rcV b = #[.int .i64 (b.num : Int), .int .i64 b.tk.cost, .int .i64 b.tk.per, .int .i64 b.rel, .int .i64 b.idx] from rfl] at *
  generalize SL.winR a.tk a.idx = ra at *
  generalize SL.winR b.tk b.idx = rb at *
  generalize SL.winD a.tk a.idx = da at *
  generalize SL.winD b.tk b.idx = db at *
  generalize SL.over a.tk a.idx = oa at *
  generalize SL.over b.tk b.idx = ob at *
  generalize SL.grp a.tk a.idx = ga at *
  generalize SL.grp b.tk b.idx = gb at *
  generalize SL.heavy a.tk = va at *
  generalize SL.heavy b.tk = vb at *
  have HR := Lib.hid hR
  clear hka hkb hR ha hb ba bb
  go_enter Try.func40, Try.ntmps40
  have hq := HKA.out.five
  have hr := HKB.out.five
  obtain ⟨x0, x1, x2, x3, x4⟩ := hq
  obtain ⟨y0, y1, y2, y3, y4⟩ := hr
  go_wp2_with fail
  generalize (w.alloc (.cells #[.int .i64 (a.num : Int), .int .i64 a.tk.cost, .int .i64 a.tk.per, .int .i64 a.rel, .int .i64 a.idx] 84)).alloc (.cells #[.int .i64 (b.num : Int), .int .i64 b.tk.cost, .int .i64 b.tk.per, .int .i64 b.rel, .int .i64 b.idx] 84) = w0 at *
  (with_reducible refine (HWA.out _).mono ?_)
  rintro e w1 ⟨rfl, q1, hw1⟩
  have HB1 := Lib.hid (show Gr w w1 by rw [hw1]; exact HB0.out.drewN q1)
  have HKA1 := Lib.hid (show Blk w1 w.heap.size 84 #[.int .i64 (a.num : Int), .int .i64 a.tk.cost, .int .i64 a.tk.per, .int .i64 a.rel, .int .i64 a.idx] by rw [hw1]; exact HKA.out)
  have HKB1 := Lib.hid (show Blk w1 (w.heap.size + 1) 84 #[.int .i64 (b.num : Int), .int .i64 b.tk.cost, .int .i64 b.tk.per, .int .i64 b.rel, .int .i64 b.idx] by rw [hw1]; exact HKB.out)
  clear hw1 x0 x1 x2 x3 x4 y0 y1 y2 y3 y4 HB0 HKA HKB
  obtain ⟨x0, x1, x2, x3, x4⟩ := HKA1.out.five
  obtain ⟨y0, y1, y2, y3, y4⟩ := HKB1.out.five
  go_wp2_with fail
  (with_reducible refine (HWB.out _).mono ?_)
  rintro e w2 ⟨rfl, q2, hw2⟩
  have HB2 := Lib.hid (show Gr w w2 by rw [hw2]; exact HB1.out.drewN q2)
  have HKA2 := Lib.hid (show Blk w2 w.heap.size 84 #[.int .i64 (a.num : Int), .int .i64 a.tk.cost, .int .i64 a.tk.per, .int .i64 a.rel, .int .i64 a.idx] by rw [hw2]; exact HKA1.out)
  have HKB2 := Lib.hid (show Blk w2 (w.heap.size + 1) 84 #[.int .i64 (b.num : Int), .int .i64 b.tk.cost, .int .i64 b.tk.per, .int .i64 b.rel, .int .i64 b.idx] by rw [hw2]; exact HKB1.out)
  clear hw2 x0 x1 x2 x3 x4 y0 y1 y2 y3 y4 HB1 HKA1 HKB1
  obtain ⟨x0, x1, x2, x3, x4⟩ := HKA2.out.five
  obtain ⟨y0, y1, y2, y3, y4⟩ := HKB2.out.five
  generalize hA : a.rel + da = A at *
  generalize hB : b.rel + db = B at *
  by_cases h1 : A = B
  · subst h1
    have e1 : (A != A) = false := by simp
    go_wp2_with fail
    go_quiet ((go_at_call 48; first | (with_reducible exact Calls.quiet_of (HOA.out _)) | (with_reducible exact Calls.quiet_of (HOB.out _))))
    obtain ⟨w3, hw3⟩ : ∃ W, W = w2.drewN nq := ⟨_, rfl⟩
    rw [← hw3]
    have HB3 := Lib.hid (show Gr w w3 by rw [hw3]; exact HB2.out.drewN nq)
    have HKA3 := Lib.hid (show Blk w3 w.heap.size 84 #[.int .i64 (a.num : Int), .int .i64 a.tk.cost, .int .i64 a.tk.per, .int .i64 a.rel, .int .i64 a.idx] by rw [hw3]; exact HKA2.out)
    have HKB3 := Lib.hid (show Blk w3 (w.heap.size + 1) 84 #[.int .i64 (b.num : Int), .int .i64 b.tk.cost, .int .i64 b.tk.per, .int .i64 b.rel, .int .i64 b.idx] by rw [hw3]; exact HKB2.out)
    clear hw3 x0 x1 x2 x3 x4 y0 y1 y2 y3 y4 HB2 HKA2 HKB2
    obtain ⟨x0, x1, x2, x3, x4⟩ := HKA3.out.five
    obtain ⟨y0, y1, y2, y3, y4⟩ := HKB3.out.five
    cases oa with
    | false =>
      cases ob with
      | true =>
        go_wp2_with fail
        go_ret
        refine ⟨?_, HB3.out⟩
        rw [HR.out]; simp [SL.befK]
      | false =>
        go_wp2_with fail
        go_ret
        refine ⟨?_, HB3.out⟩
        rw [HR.out]; simp [SL.befK]
    | true =>
      cases ob with
      | false =>
        go_wp2_with fail
        go_ret
        refine ⟨?_, HB3.out⟩
        rw [HR.out]; simp [SL.befK]
      | true =>
        go_wp2_with fail
        (with_reducible refine (HHA.out _).mono ?_)
        rintro e w4 ⟨rfl, q4, hw4⟩
        have HB4 := Lib.hid (show Gr w w4 by rw [hw4]; exact HB3.out.drewN q4)
        have HKA4 := Lib.hid (show Blk w4 w.heap.size 84 #[.int .i64 (a.num : Int), .int .i64 a.tk.cost, .int .i64 a.tk.per, .int .i64 a.rel, .int .i64 a.idx] by rw [hw4]; exact HKA3.out)
        have HKB4 := Lib.hid (show Blk w4 (w.heap.size + 1) 84 #[.int .i64 (b.num : Int), .int .i64 b.tk.cost, .int .i64 b.tk.per, .int .i64 b.rel, .int .i64 b.idx] by rw [hw4]; exact HKB3.out)
        clear hw4 x0 x1 x2 x3 x4 y0 y1 y2 y3 y4 HB3 HKA3 HKB3
        obtain ⟨x0, x1, x2, x3, x4⟩ := HKA4.out.five
        obtain ⟨y0, y1, y2, y3, y4⟩ := HKB4.out.five
        cases va with
        | false =>
          go_wp2_with fail
          (with_reducible refine (HHB.out _).mono ?_)
          rintro e w5 ⟨rfl, q5, hw5⟩
          have HB5 := Lib.hid (show Gr w w5 by rw [hw5]; exact HB4.out.drewN q5)
          have HKA5 := Lib.hid (show Blk w5 w.heap.size 84 #[.int .i64 (a.num : Int), .int .i64 a.tk.cost, .int .i64 a.tk.per, .int .i64 a.rel, .int .i64 a.idx] by rw [hw5]; exact HKA4.out)
          have HKB5 := Lib.hid (show Blk w5 (w.heap.size + 1) 84 #[.int .i64 (b.num : Int), .int .i64 b.tk.cost, .int .i64 b.tk.per, .int .i64 b.rel, .int .i64 b.idx] by rw [hw5]; exact HKB4.out)
          clear hw5 x0 x1 x2 x3 x4 y0 y1 y2 y3 y4 HB4 HKA4 HKB4
          obtain ⟨x0, x1, x2, x3, x4⟩ := HKA5.out.five
          obtain ⟨y0, y1, y2, y3, y4⟩ := HKB5.out.five
          cases vb with
          | false =>
            have e2 : ((0 : Int) != 0) = false := by simp
            go_wp2_with fail
            go_ret
            refine ⟨?_, HB5.out⟩
            rw [HR.out]; simp [SL.befK]
          | true =>
            have zb := HLB.out rfl
            have HGB2 := Lib.hid (HGB.out rfl)
            go_wp2_with fail
            go_quiet ((go_at_call 50; exact Calls.quiet_of (HGB2.out _)))
            obtain ⟨w6, hw6⟩ : ∃ W, W = w5.drewN nq := ⟨_, rfl⟩
            rw [← hw6]
            have HB6 := Lib.hid (show Gr w w6 by rw [hw6]; exact HB5.out.drewN nq)
            have HKA6 := Lib.hid (show Blk w6 w.heap.size 84 #[.int .i64 (a.num : Int), .int .i64 a.tk.cost, .int .i64 a.tk.per, .int .i64 a.rel, .int .i64 a.idx] by rw [hw6]; exact HKA5.out)
            have HKB6 := Lib.hid (show Blk w6 (w.heap.size + 1) 84 #[.int .i64 (b.num : Int), .int .i64 b.tk.cost, .int .i64 b.tk.per, .int .i64 b.rel, .int .i64 b.idx] by rw [hw6]; exact HKB5.out)
            clear hw6 x0 x1 x2 x3 x4 y0 y1 y2 y3 y4 HB5 HKA5 HKB5
            obtain ⟨x0, x1, x2, x3, x4⟩ := HKA6.out.five
            obtain ⟨y0, y1, y2, y3, y4⟩ := HKB6.out.five
            by_cases h2 : 0 = b.rel + gb
            · have e2 : ((0 : Int) != b.rel + gb) = false := by simp [h2]
              have H2 := Lib.hid h2
              clear h2
              go_wp2_with fail
              go_ret
              refine ⟨?_, HB6.out⟩
              rw [HR.out]; simp [SL.befK, H2.out]
            · have e2 : ((0 : Int) != b.rel + gb) = true := by simp [h2]
              have H2 := Lib.hid h2
              clear h2
              go_wp2_with fail
              go_ret
              refine ⟨?_, HB6.out⟩
              rw [HR.out]; simp [SL.befK, H2.out]
        | true =>
          have za := HLA.out rfl
          have HGA2 := Lib.hid (HGA.out rfl)
          go_wp2_with fail
          go_quiet ((go_at_call 50; exact Calls.quiet_of (HGA2.out _)))
          obtain ⟨w5, hw5⟩ : ∃ W, W = w4.drewN nq := ⟨_, rfl⟩
          rw [← hw5]
          have HB5 := Lib.hid (show Gr w w5 by rw [hw5]; exact HB4.out.drewN nq)
          have HKA5 := Lib.hid (show Blk w5 w.heap.size 84 #[.int .i64 (a.num : Int), .int .i64 a.tk.cost, .int .i64 a.tk.per, .int .i64 a.rel, .int .i64 a.idx] by rw [hw5]; exact HKA4.out)
          have HKB5 := Lib.hid (show Blk w5 (w.heap.size + 1) 84 #[.int .i64 (b.num : Int), .int .i64 b.tk.cost, .int .i64 b.tk.per, .int .i64 b.rel, .int .i64 b.idx] by rw [hw5]; exact HKB4.out)
          clear hw5 x0 x1 x2 x3 x4 y0 y1 y2 y3 y4 HB4 HKA4 HKB4
          obtain ⟨x0, x1, x2, x3, x4⟩ := HKA5.out.five
          obtain ⟨y0, y1, y2, y3, y4⟩ := HKB5.out.five
          go_wp2_with fail
          (with_reducible refine (HHB.out _).mono ?_)
          rintro e w6 ⟨rfl, q6, hw6⟩
          have HB6 := Lib.hid (show Gr w w6 by rw [hw6]; exact HB5.out.drewN q6)
          have HKA6 := Lib.hid (show Blk w6 w.heap.size 84 #[.int .i64 (a.num : Int), .int .i64 a.tk.cost, .int .i64 a.tk.per, .int .i64 a.rel, .int .i64 a.idx] by rw [hw6]; exact HKA5.out)
          have HKB6 := Lib.hid (show Blk w6 (w.heap.size + 1) 84 #[.int .i64 (b.num : Int), .int .i64 b.tk.cost, .int .i64 b.tk.per, .int .i64 b.rel, .int .i64 b.idx] by rw [hw6]; exact HKB5.out)
          clear hw6 x0 x1 x2 x3 x4 y0 y1 y2 y3 y4 HB5 HKA5 HKB5
          obtain ⟨x0, x1, x2, x3, x4⟩ := HKA6.out.five
          obtain ⟨y0, y1, y2, y3, y4⟩ := HKB6.out.five
          cases vb with
          | false =>
            by_cases h2 : a.rel + ga = 0
            · have e2 : ((a.rel + ga : Int) != 0) = false := by simp [h2]
              have H2 := Lib.hid h2
              clear h2
              go_wp2_with fail
              go_ret
              refine ⟨?_, HB6.out⟩
              rw [HR.out]; simp [SL.befK, H2.out]
            · have e2 : ((a.rel + ga : Int) != 0) = true := by simp [h2]
              have H2 := Lib.hid h2
              clear h2
              go_wp2_with fail
              go_ret
              refine ⟨?_, HB6.out⟩
              rw [HR.out]; simp [SL.befK, H2.out]
          | true =>
            have zb := HLB.out rfl
            have HGB2 := Lib.hid (HGB.out rfl)
            go_wp2_with fail
            go_quiet ((go_at_call 50; exact Calls.quiet_of (HGB2.out _)))
            obtain ⟨w7, hw7⟩ : ∃ W, W = w6.drewN nq := ⟨_, rfl⟩
            rw [← hw7]
            have HB7 := Lib.hid (show Gr w w7 by rw [hw7]; exact HB6.out.drewN nq)
            have HKA7 := Lib.hid (show Blk w7 w.heap.size 84 #[.int .i64 (a.num : Int), .int .i64 a.tk.cost, .int .i64 a.tk.per, .int .i64 a.rel, .int .i64 a.idx] by rw [hw7]; exact HKA6.out)
            have HKB7 := Lib.hid (show Blk w7 (w.heap.size + 1) 84 #[.int .i64 (b.num : Int), .int .i64 b.tk.cost, .int .i64 b.tk.per, .int .i64 b.rel, .int .i64 b.idx] by rw [hw7]; exact HKB6.out)
            clear hw7 x0 x1 x2 x3 x4 y0 y1 y2 y3 y4 HB6 HKA6 HKB6
            obtain ⟨x0, x1, x2, x3, x4⟩ := HKA7.out.five
            obtain ⟨y0, y1, y2, y3, y4⟩ := HKB7.out.five
            by_cases h2 : a.rel + ga = b.rel + gb
            · have e2 : ((a.rel + ga : Int) != b.rel + gb) = false := by simp [h2]
              have H2 := Lib.hid h2
              clear h2
              go_wp2_with fail
              go_ret
              refine ⟨?_, HB7.out⟩
              rw [HR.out]; simp [SL.befK, H2.out]
            · have e2 : ((a.rel + ga : Int) != b.rel + gb) = true := by simp [h2]
              have H2 := Lib.hid h2
              clear h2
              go_wp2_with fail
              go_ret
              refine ⟨?_, HB7.out⟩
              rw [HR.out]; simp [SL.befK, H2.out]
  · have e1 : (A != B) = true := by simp [h1]
    have H1 := Lib.hid h1
    clear h1
    go_wp2_with fail
    go_ret
    refine ⟨?_, HB2.out⟩
    rw [HR.out]; simp [SL.befK, H1.out]
end
end Go.Proofs.Ytehdgdlndlamjaa
