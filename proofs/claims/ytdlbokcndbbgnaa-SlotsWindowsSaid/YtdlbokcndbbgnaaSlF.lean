/- The model made; pending jobs; the candidates of a slot. -/
import Derived.Test.YtdlbokcndbbgnaaSlD
import Derived.Laws.MakeOwn
namespace Go.Proofs.Ytdlbokcndbbgnaa
open Go.RowKit Go.Maps
open SL (Tk Jb Ms Cd)
theorem infoJb : (Try.prog.info? 72).map (fun i => (i.zero, i.size, i.bytes)) = some (some (.agg #[.bool false, .int .i64 0, .int .i64 0, .int .i64 0]), 4, 32) := by kernel_rfl
theorem made_flat (z : List Value) (d : Nat) (hz : z.length = d) : ∀ n, (madeCells z.toArray (n * d)) = ((List.replicate n ()).flatMap fun _ => z).toArray := by
  intro n
  apply Array.ext_getElem?
  intro i
  unfold madeCells
  rw [Array.getElem?_map]
  have hl : ((List.replicate n ()).flatMap fun _ => z).length = n * d := by rw [flat_len d _ (fun _ => hz)]; simp
  by_cases hi : i < n * d
  · have hd : 0 < d := by rcases Nat.eq_zero_or_pos d with h | h; subst h; simp at hi; exact h
    rw [show (Array.range (n * d))[i]? = some i from by simp [hi], List.getElem?_toArray]
    have hk : i / d < n := Nat.div_lt_of_lt_mul (by rw [Nat.mul_comm]; exact hi)
    have h1 := flat_at d (fun _ : Unit => z) (fun _ => hz) (List.replicate n ()) (i / d) (i % d) () (by simp [hk]) (Nat.mod_lt _ hd)
    rw [show i / d * d + i % d = i from by rw [Nat.mul_comm]; exact Nat.div_add_mod i d] at h1
    rw [h1]
    have h2 : i % d < z.length := by rw [hz]; exact Nat.mod_lt _ hd
    simp [hz]
    rw [List.getElem?_eq_getElem h2]
    rfl
  · rw [show (Array.range (n * d))[i]? = none from by simp; omega, List.getElem?_toArray, List.getElem?_eq_none (by omega)]
    rfl
theorem jb0_made (n : Nat) : madeCells #[.bool false, .int .i64 0, .int .i64 0, .int .i64 0] (n * 4) = jbC (List.replicate n SL.jb0) := by
  rw [show (#[.bool false, .int .i64 0, .int .i64 0, .int .i64 0] : Array Value) = [Value.bool false, .int .i64 0, .int .i64 0, .int .i64 0].toArray from rfl, made_flat _ 4 rfl]
  unfold jbC
  congr 1
  induction n with
  | zero => rfl
  | succ n ih => rw [List.replicate_succ, List.replicate_succ, List.flatMap_cons, List.flatMap_cons, ih]; rfl
section
set_option maxHeartbeats 1000000
set_option maxRecDepth 100000
theorem start_any (M : Mdl) (w : World) (hn : M.ts.length ≤ 40) :
    Calls Try.prog 23 #[M.tv, M.rv] w fun e w' => ∃ gm gj, e = .returned (.pointer (some ⟨gm, 0, none⟩)) ∧ MInv w M gm gj (List.replicate M.ts.length SL.jb0) (.slice none 0 0) [] w' := by
  obtain ⟨i1, ki, kz0, kz1, kz2⟩ := info_parts infoJb
  have hmk : ∀ W : World, (Instr.makeSlice 73 (.int .i64 (M.ts.length : Int)) (.int .i64 (M.ts.length : Int))).run Try.prog W = .ok (.slice (some ⟨W.heap.size, 0, none⟩) M.ts.length M.ts.length) (W.alloc (.cells (jbC (List.replicate M.ts.length SL.jb0)) 72)) := fun W => by
    have h := run_make (P := Try.prog) W 73 72 i1 _ Try.underlying73 ki kz0 .i64 .i64 (M.ts.length : Int) (M.ts.length : Int) (by omega) (by omega) (by rw [kz2]; omega) (by omega)
    rw [kz1] at h
    rw [← jb0_made]
    exact h
  have HM := Lib.hid hmk
  rw [show M.tv = .slice M.A M.ts.length M.c from rfl, show M.rv = .slice M.rA M.rs.length M.rc from rfl]
  clear ki kz0 kz1 kz2
  have HF := Lib.hid (show MInv w M (w.heap.size + 1) w.heap.size (List.replicate M.ts.length SL.jb0) (.slice none 0 0) [] ((w.alloc (.cells (jbC (List.replicate M.ts.length SL.jb0)) 72)).alloc (.cells #[.slice M.A M.ts.length M.c, .slice M.rA M.rs.length M.rc, .slice (some ⟨w.heap.size, 0, none⟩) M.ts.length M.ts.length, .slice none 0 0] 75)) from
    ⟨(((Gr.refl w).alloc _).alloc _).1, by omega, Nat.le_refl _, blk_second w _ _ _ _, (Blk.new w _ _).alloc _, World.ownsRow_nil _ _ _ _, by simp, fun j hj => by rw [(List.mem_replicate.1 hj).2]; exact ⟨by decide, by decide, by decide, by decide, by decide⟩⟩)
  generalize jbC (List.replicate M.ts.length SL.jb0) = JC at *
  go_enter Try.func23, Try.ntmps23
  go_wp2_with fail
  go_ret
  exact ⟨_, _, rfl, HF.out⟩
/-- A task of the plan, in whatever world the plan still lies in. -/
theorem MC.task {B : World} {M : Mdl} (hmc : MC B M) {k : Nat} {t : Tk} (ht : M.ts[k]? = some t) : ∃ tb to_, M.A = some ⟨tb, to_, none⟩ ∧ ∀ W, Below B.heap.size B W →
    W.cell? ⟨tb, to_ + k * 3, none⟩ = some (.string t.name) ∧ W.cell? ⟨tb, to_ + k * 3 + 1, none⟩ = some (.int .i64 t.cost) ∧ W.cell? ⟨tb, to_ + k * 3 + 2, none⟩ = some (.int .i64 t.per) := by
  obtain ⟨tb, to_, hA, _⟩ := hmc.row.tk ht
  refine ⟨tb, to_, hA, fun W hb => ?_⟩
  obtain ⟨tb', to_', hA', _, h0, h1, h2⟩ := (hmc.row.below hb).tk ht
  rw [hA] at hA'
  injection hA' with hA'
  injection hA' with e1 e2
  subst e1 e2
  exact ⟨h0, h1, h2⟩
theorem MC.okt {B : World} {M : Mdl} (hmc : MC B M) {k : Nat} {t : Tk} (ht : M.ts[k]? = some t) : SL.okTk t = true := by
  have := hmc.ok; unfold SL.okTs at this; simp only [Bool.and_eq_true, List.all_eq_true] at this
  exact this.2 t (List.mem_of_getElem? ht)
theorem MC.n40 {B : World} {M : Mdl} (hmc : MC B M) : M.ts.length ≤ 40 := by
  have := hmc.ok; unfold SL.okTs at this; simp at this; exact this.1
theorem pending_any (B : World) (M : Mdl) (hmc : MC B M) (gm gj : Nat) (js : List Jb) (mv : Value) (ms : List Ms) (k : Nat) (t : Tk) (j : Jb) (ht : M.ts[k]? = some t) (hj : js[k]? = some j) (w : World) (hI : MInv B M gm gj js mv ms w) :
    Calls Try.prog 39 #[.pointer (some ⟨gm, 0, none⟩), .int .i64 (k : Int)] w fun e w' => e = .returned (.bool (SL.pend t j)) ∧ ∃ q, w' = w.drewN q := by
  have hk : k < M.ts.length := (List.getElem?_eq_some_iff.1 ht).1
  have q0 : (k : Int) < (M.ts.length : Int) := by omega
  have h40 := hmc.n40
  obtain ⟨tb, to_, hA, hT⟩ := hmc.task ht
  obtain ⟨_, t1, _⟩ := hT w hI.be
  have a0 := hI.bm.cell 0
  rw [show M.tv = .slice (some ⟨tb, to_, none⟩) M.ts.length M.c from by unfold Mdl.tv; rw [hA]] at a0
  have a2 := hI.bm.cell 2
  simp only [List.getElem?_toArray, List.getElem?_cons_zero, List.getElem?_cons_succ] at a0 a2
  obtain ⟨c0, c1, c2, c3⟩ := jb_cells hI.bj hj
  have hR : SL.pend t j = (j.live && decide (j.done < t.cost)) := rfl
  generalize SL.pend t j = R at *
  clear hT hI hA ht hj hmc
  by_cases hl : j.live = true
  · rw [hl] at c0 hR
    by_cases hd : j.done < t.cost
    · have d1 : decide (j.done < t.cost) = true := decide_eq_true hd
      have HR := Lib.hid (show R = true by rw [hR, d1]; rfl)
      clear hR hl hd
      go_enter Try.func39, Try.ntmps39
      go_wp2_with fail
      go_quiet (fail)
      go_wp2_with fail
      go_ret
      rw [HR.out]
      exact ⟨rfl, _, rfl⟩
    · have d1 : decide (j.done < t.cost) = false := decide_eq_false hd
      have HR := Lib.hid (show R = false by rw [hR, d1]; rfl)
      clear hR hl hd
      go_enter Try.func39, Try.ntmps39
      go_wp2_with fail
      go_quiet (fail)
      go_wp2_with fail
      go_ret
      rw [HR.out]
      exact ⟨rfl, _, rfl⟩
  · have hl' : j.live = false := by simpa using hl
    rw [hl'] at c0 hR
    have HR := Lib.hid (show R = false by rw [hR]; rfl)
    clear hR hl hl'
    go_enter Try.func39, Try.ntmps39
    go_wp2_with fail
    go_quiet (fail)
    go_wp2_with fail
    go_ret
    rw [HR.out]
    exact ⟨rfl, _, rfl⟩
end
end Go.Proofs.Ytdlbokcndbbgnaa
