/- The auditor: start, an event, next. -/
import Derived.Test.YtpmbhdheeaejgaaGreatDoorAuA
import Derived.Laws.MakeOwn
namespace Go.Proofs.YtpmbhdheeaejgaaGreatDoor
open Go.RowKit Go.Maps
open SL (Tk Cd)
open AU (Pr Rq Ev Mo)
theorem infoPr : (Tryz.prog.info? 93).map (fun i => (i.zero, i.size, i.bytes)) = some (some (.agg #[.int .i64 0, .bool false, .int .i64 0, .int .i64 0, .int .i64 0, .int .i64 0]), 6, 48) := by kernel_rfl
theorem made_flat' (z : List Value) (d : Nat) (hz : z.length = d) : ∀ n, (madeCells z.toArray (n * d)) = ((List.replicate n ()).flatMap fun _ => z).toArray := by
  intro n
  apply Array.ext_getElem?
  intro i
  unfold madeCells
  rw [Array.getElem?_map]
  have hl : ((List.replicate n ()).flatMap fun _ => z).length = n * d := by rw [flat_len d _ (fun _ => hz)]; simp
  by_cases hi : i < n * d
  · have hd : 0 < d := by rcases Nat.eq_zero_or_pos d with h | h; subst h; simp at hi; exact h
    rw [show (Array.range (n * d))[i]? = some i from by simp [hi], List.getElem?_toArray]
    have hk : i / d < n := Nat.div_lt_of_lt_mul (by rw [Nat.mul_comm]; exact hi)
    have h1 := flat_at d (fun _ : Unit => z) (fun _ => hz) (List.replicate n ()) (i / d) (i % d) () (by simp [hk]) (Nat.mod_lt _ hd)
    rw [show i / d * d + i % d = i from by rw [Nat.mul_comm]; exact Nat.div_add_mod i d] at h1
    rw [h1]
    have h2 : i % d < z.length := by rw [hz]; exact Nat.mod_lt _ hd
    simp [hz]
    rw [List.getElem?_eq_getElem h2]
    rfl
  · rw [show (Array.range (n * d))[i]? = none from by simp; omega, List.getElem?_toArray, List.getElem?_eq_none (by omega)]
    rfl
theorem pr0_made (n : Nat) : madeCells #[.int .i64 0, .bool false, .int .i64 0, .int .i64 0, .int .i64 0, .int .i64 0] (n * 6) = prC (List.replicate n AU.pr0) := by
  rw [show (#[.int .i64 0, .bool false, .int .i64 0, .int .i64 0, .int .i64 0, .int .i64 0] : Array Value) = [Value.int .i64 0, .bool false, .int .i64 0, .int .i64 0, .int .i64 0, .int .i64 0].toArray from rfl, made_flat' _ 6 rfl]
  unfold prC
  congr 1
  induction n with
  | zero => rfl
  | succ n ih => rw [List.replicate_succ, List.replicate_succ, List.flatMap_cons, List.flatMap_cons, ih]; rfl
/-- A process as it is copied. -/
def prV (p : Pr) : Array Value := #[.int .i64 (p.jobs : Int), .bool p.live, .int .i64 p.rel, .int .i64 p.ran, .int .i64 p.last, .int .i64 p.core]
theorem event_result {fn : Func} {p : Tmp} (h : fn.results = #[.cell p 26]) {tmps : Array Value} {w : World} {g : Nat} {a0 a1 a2 a3 a4 a5 a6 a7 : Value} (hp : tmps.getD p undef = .pointer (some ⟨g, 0, none⟩)) (hb : Blk w g 26 #[a0, a1, a2, a3, a4, a5, a6, a7]) :
    (results fn tmps).run Tryz.prog w = .ok (.agg #[a0, a1, a2, a3, a4, a5, a6, a7]) w :=
  results_cell_row h tmps w g 26 _ (0, 0) _ hp hb Tryz.underlying26 rfl (by kernel_rfl)
section
set_option maxHeartbeats 2000000
set_option maxRecDepth 100000
theorem audStart_any (X : Aud) (w : World) (hx : AudOk w X) :
    Calls Tryz.prog 21 #[X.tv, .int .i64 (X.n : Int)] w fun e w' => ∃ gm gp, e = .returned (.pointer (some ⟨gm, 0, none⟩)) ∧ AInv w X gm gp (AU.mo0 X.ts.length) w' := by
  obtain ⟨i1, ki, kz0, kz1, kz2⟩ := info_parts infoPr
  have hn := hx.len
  have hmk : ∀ W : World, (Instr.makeSlice 72 (.int .i64 (X.ts.length : Int)) (.int .i64 (X.ts.length : Int))).run Tryz.prog W = .ok (.slice (some ⟨W.heap.size, 0, none⟩) X.ts.length X.ts.length) (W.alloc (.cells (prC (List.replicate X.ts.length AU.pr0)) 93)) := fun W => by
    have h := run_make (P := Tryz.prog) W 72 93 i1 _ Tryz.underlying72 ki kz0 .i64 .i64 (X.ts.length : Int) (X.ts.length : Int) (by omega) (by omega) (by rw [kz2]; omega) (by omega)
    rw [kz1, Int.toNat_natCast] at h
    rw [← pr0_made]
    exact h
  have HM := Lib.hid hmk
  rw [show X.tv = .slice X.A X.ts.length X.c from rfl]
  clear ki kz0 kz1 kz2
  have HF := Lib.hid (show AInv w X (w.heap.size + 1) w.heap.size (AU.mo0 X.ts.length) ((w.alloc (.cells (prC (List.replicate X.ts.length AU.pr0)) 93)).alloc (.cells #[.slice X.A X.ts.length X.c, .int .i64 (X.n : Int), .slice (some ⟨w.heap.size, 0, none⟩) X.ts.length X.ts.length, .int .i64 0, .int .i64 1, .slice none 0 0, .int .i64 (-1)] 74)) from
    ⟨(((Gr.refl w).alloc _).alloc _).1, by omega, Nat.le_refl _, (Blk.new w _ _).alloc _, none, 0, 0, blk_second w _ _ _ _, fun h => absurd rfl h, Nat.le_refl _⟩)
  generalize prC (List.replicate X.ts.length AU.pr0) = JC at *
  clear hx
  go_enter Tryz.func21, Tryz.ntmps21
  go_wp2_with fail
  go_ret
  exact ⟨_, _, rfl, HF.out⟩
theorem event_any {B : World} {X : Aud} {gm gp : Nat} {m : Mo} {w : World} (hI : AInv B X gm gp m w) (kind k : Nat) (core value : Int) (p : Pr) (hl : X.ts.length = m.ps.length) (_h40 : X.ts.length ≤ 40) (hp : m.ps[k]? = some p) (hj : p.jobs ≤ 1000000000) :
    Calls Tryz.prog 61 #[.pointer (some ⟨gm, 0, none⟩), .int .u8 (kind : Int), .int .i64 (k : Int), .int .i64 core, .int .i64 value] w fun e w' => e = .returned (.agg (rqL m.slot kind ⟨core, k, (p.jobs : Int) - 1, value⟩).toArray) ∧ Gr w w' := by
  have hk : k < X.ts.length := by rw [hl]; exact (List.getElem?_eq_some_iff.1 hp).1
  have q0 : (k : Int) < (X.ts.length : Int) := by omega
  obtain ⟨A, c, kd, hbm, _⟩ := hI.bm
  obtain ⟨c0, c1, c2, c3, c4, c5⟩ := pr_cells hI.bp hp
  have a2 : w.cell? ⟨gm, 2, none⟩ = some (.slice (some ⟨gp, 0, none⟩) X.ts.length X.ts.length) := hbm.cell 2
  have a3 : w.cell? ⟨gm, 3, none⟩ = some (.int .i64 (m.slot : Int)) := hbm.cell 3
  have z1 : IntKind.i64.wrap ((p.jobs : Int) - 1) = (p.jobs : Int) - 1 := IntWalk.i64_in _ (by omega)
  have hlm := hbm.lt
  have hlp := hI.bp.lt
  rw [show (rqL m.slot kind ⟨core, k, (p.jobs : Int) - 1, value⟩).toArray = #[.int .i64 (m.slot : Int), .int .i64 core, .int .i64 (k : Int), .int .i64 ((p.jobs : Int) - 1), .int .u8 (kind : Int), .int .i64 value, .int .i64 0, .int .i64 0] from rfl]
  clear hI hbm hp hl c1 c2 c3 c4 c5
  go_enter Tryz.func61, Tryz.ntmps61
  have hg0 := (Gr.refl w).alloc (.cells #[.int .i64 0, .int .i64 0, .int .i64 0, .int .i64 0, .int .u8 0, .int .i64 0, .int .i64 0, .int .i64 0] 26)
  have b0 := (hg0.1.cell (p := ⟨gp, k * 6, none⟩) hlp).trans c0
  have b2 := (hg0.1.cell (p := ⟨gm, 2, none⟩) hlm).trans a2
  have b3 := (hg0.1.cell (p := ⟨gm, 3, none⟩) hlm).trans a3
  have HG := Lib.hid (((Gr.refl w).alloc (.cells #[.int .i64 (m.slot : Int), .int .i64 core, .int .i64 (k : Int), .int .i64 ((p.jobs : Int) - 1), .int .u8 (kind : Int), .int .i64 value, .int .i64 0, .int .i64 0] 26)).drew)
  clear hg0
  go_wp2_with fail
  generalize hw1 : w.alloc (.cells #[.int .i64 0, .int .i64 0, .int .i64 0, .int .i64 0, .int .u8 0, .int .i64 0, .int .i64 0, .int .i64 0] 26) = w1 at *
  have HW1 := Lib.hid hw1
  clear hw1
  go_still_tail 18, (by kernel_rfl)
  change wpList _ _ _ _ _ w1.drew
  clear b0 b2 b3 c0 a2 a3
  rw [← HW1.out]
  go_wp2_with fail
  refine bodyPost_ret (event_result rfl rfl ((Blk.new w 26 #[.int .i64 (m.slot : Int), .int .i64 core, .int .i64 (k : Int), .int .i64 ((p.jobs : Int) - 1), .int .u8 (kind : Int), .int .i64 value, .int .i64 0, .int .i64 0]).drewN 1)) rfl ?_
  exact ⟨rfl, HG.out⟩
theorem next_any {B : World} {X : Aud} {gm gp : Nat} {m : Mo} {w : World} (hI : AInv B X gm gp m w) (e : Ev) (hq : m.req.length ≤ 1000) :
    Calls Tryz.prog 43 #[.pointer (some ⟨gm, 0, none⟩), .agg (evV e)] w fun r w' => r = .returned (.bool (AU.nextB m e)) ∧ Gr w w' := by
  have hg0 := (Gr.refl w).alloc (.cells (evV e) 26)
  obtain ⟨A, c, kind, hbm, hrt, _⟩ := (hI.below hg0.1).bm
  have HRT := Lib.hid hrt
  have a5 := hbm.cell 5
  simp only [List.getElem?_toArray, List.getElem?_cons_succ, List.getElem?_cons_zero] at a5
  have hk : Blk (w.alloc (.cells (evV e) 26)) w.heap.size 26 (evV e) := Blk.new w _ _
  have HK := Lib.hid hk
  have HG := Lib.hid hg0
  rw [show evV e = #[.int .i64 e.slot, .int .i64 e.core, .int .i64 e.task, .int .i64 e.job, .int .u8 (e.kind : Int), .int .i64 e.value, .int .i64 e.cycle, .int .i64 e.port] from rfl] at *
  have hN : AU.nextB m e = match m.req with | [] => false | r :: _ => decide (e.task = r.task) && decide (e.job = r.job) && decide (e.core = r.core) && decide (e.value = r.value) := rfl
  generalize AU.nextB m e = R at *
  cases hr : m.req with
  | nil =>
    rw [hr] at hN a5
    simp only at hN
    subst hN
    clear hI hbm hrt hk hg0 hr hq HRT
    go_enter Tryz.func43, Tryz.ntmps43
    go_wp2_with fail
    go_ret
    exact ⟨rfl, HG.out⟩
  | cons r l =>
    rw [hr] at hN a5 hrt hq
    simp only at hN
    obtain ⟨b, o, rfl, hb, x0, x1, x2, x3, x4, x5, x6, x7⟩ := rq_at hrt.row (show (r :: l)[0]? = some r from rfl)
    have HN := Lib.hid hN
    simp only [List.length_cons] at a5 hq
    simp only [Nat.zero_mul, Nat.add_zero] at x0 x1 x2 x3 x4 x5 x6 x7
    have HG2 := Lib.hid (HG.out.alloc (.cells #[.int .i64 (m.slot : Int), .int .i64 r.core, .int .i64 (r.task : Int), .int .i64 r.job, .int .u8 (kind : Int), .int .i64 r.value, .int .i64 0, .int .i64 0] 26))
    clear hI hbm hrt hk hg0 hr hN HRT
    by_cases h1 : e.task = r.task
    · have e1 : (e.task == (r.task : Int)) = true := by simp [h1]
      by_cases h2 : e.job = r.job
      · have e2 : (e.job == r.job) = true := by simp [h2]
        by_cases h3 : e.core = r.core
        · have e3 : (e.core == r.core) = true := by simp [h3]
          by_cases h4 : e.value = r.value
          · have e4 : (e.value == r.value) = true := by simp [h4]
            have HR := Lib.hid (show R = true by rw [HN.out]; simp [h1, h2, h3, h4])
            clear h1 h2 h3 h4
            go_enter Tryz.func43, Tryz.ntmps43
            go_wp2_with fail
            go_ret
            rw [HR.out]
            exact ⟨rfl, HG2.out⟩
          · have e4 : (e.value == r.value) = false := by simp [h4]
            have HR := Lib.hid (show R = false by rw [HN.out]; simp [h4])
            clear h1 h2 h3 h4
            go_enter Tryz.func43, Tryz.ntmps43
            go_wp2_with fail
            go_ret
            rw [HR.out]
            exact ⟨rfl, HG2.out⟩
        · have e3 : (e.core == r.core) = false := by simp [h3]
          have HR := Lib.hid (show R = false by rw [HN.out]; simp [h3])
          clear h1 h2 h3
          go_enter Tryz.func43, Tryz.ntmps43
          go_wp2_with fail
          go_ret
          rw [HR.out]
          exact ⟨rfl, HG2.out⟩
      · have e2 : (e.job == r.job) = false := by simp [h2]
        have HR := Lib.hid (show R = false by rw [HN.out]; simp [h2])
        clear h1 h2
        go_enter Tryz.func43, Tryz.ntmps43
        go_wp2_with fail
        go_ret
        rw [HR.out]
        exact ⟨rfl, HG2.out⟩
    · have e1 : (e.task == (r.task : Int)) = false := by simp [h1]
      have HR := Lib.hid (show R = false by rw [HN.out]; simp [h1])
      clear h1
      go_enter Tryz.func43, Tryz.ntmps43
      go_wp2_with fail
      go_ret
      rw [HR.out]
      exact ⟨rfl, HG2.out⟩
end
end Go.Proofs.YtpmbhdheeaejgaaGreatDoor
