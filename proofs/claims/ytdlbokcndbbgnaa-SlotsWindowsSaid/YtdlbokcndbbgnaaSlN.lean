/- The law's bounds and validity of a plan. -/
import Derived.Test.YtdlbokcndbbgnaaSlM
import Derived.Test.YtdlbokcndbbgnaaSlJ
import Derived.Deep.RegionHeld3
import Derived.Deep.RegionWith
namespace Go.Proofs.Ytdlbokcndbbgnaa
open Go.RowKit Go.Maps Go.Sort Go.Lib
open SL (Tk Jb Ms Cd)
/-- A plan as the laws take it. -/
structure Pl where
  m : Mdl
  cores : Int
  untl : Int
def plV (p : Pl) : Array Value := #[p.m.tv, .int .i64 p.cores, p.m.rv, .int .i64 p.untl]
def greatP (p : Pl) : Bool := !(p.m.rs.all fun r => decide (r.length ≤ 20)) || decide (8 < p.m.ts.length) || decide (10 < p.m.rs.length) || decide (100 < p.untl)
structure PlIn (w : World) (p : Pl) : Prop where
  row : Row w p.m.A (tkRow p.m.ts)
  rel : RelV w p.m.rv p.m.rs
  lt : p.m.ts.length ≤ maxLen
  lr : p.m.rs.length ≤ maxLen
  lx : ∀ r ∈ p.m.rs, r.length ≤ maxLen ∧ ∀ x ∈ r, x ≤ 9223372036854775807
theorem PlIn.below {w w' : World} {p : Pl} (h : PlIn w p) (hb : Below w.heap.size w w') : PlIn w' p := ⟨h.row.below hb, h.rel.below hb, h.lt, h.lr, h.lx⟩
section
set_option maxHeartbeats 2000000
set_option maxRecDepth 100000
theorem great_any (p : Pl) (w : World) (hp : PlIn w p) : Calls Try.prog 13 #[.agg (plV p)] w fun e w' => e = .returned (.bool (greatP p)) ∧ Below w.heap.size w w' := by
  obtain ⟨M, cores, untl⟩ := p
  obtain ⟨ts, A, c, rs, rA, rc⟩ := M
  have hmx : maxLen = 9223372036854775807 := rfl
  have hR : greatP ⟨⟨ts, A, c, rs, rA, rc⟩, cores, untl⟩ = (!(rs.all fun r => decide (r.length ≤ 20)) || decide (8 < ts.length) || decide (10 < rs.length) || decide (100 < untl)) := rfl
  generalize greatP ⟨⟨ts, A, c, rs, rA, rc⟩, cores, untl⟩ = R at *
  obtain ⟨hrow0, ⟨RA, RC, hsr, hrv, hsl, hrow, hrr⟩, hlt, hlr, hlx⟩ := hp
  simp only at hrow0 hrv hsl hrow hrr hlt hlr hlx
  unfold Mdl.rv at hrv
  simp only at hrv
  injection hrv with e1 _ e2
  subst e1 e2
  have hb := (Below.refl w.heap.size w).alloc (Nat.le_refl _) (.cells #[.slice A ts.length c, .int .i64 cores, .slice rA rs.length rc, .int .i64 untl] 25)
  have hk := Blk.new w 25 #[.slice A ts.length c, .int .i64 cores, .slice rA rs.length rc, .int .i64 untl]
  obtain ⟨a0, a1, a2, a3⟩ := hk.four.1
  have HB := Lib.hid hb
  have HROW := Lib.hid (hrow.below hb)
  have HRR := Lib.hid hrr
  rw [hmx] at hlr hlt
  rw [show plV ⟨⟨ts, A, c, rs, rA, rc⟩, cores, untl⟩ = #[.slice A ts.length c, .int .i64 cores, .slice rA rs.length rc, .int .i64 untl] from rfl]
  have HLX := Lib.hid hlx
  clear hb hk hrow hrr hrow0 hlx
  go_enter Try.func13, Try.ntmps13
  go_wp2_with fail
  go_loopw [8] (fun v wr => ∃ k : Nat, k ≤ rs.length ∧ v = .int .i64 (k : Int) ∧ (rs.take k).all (fun r => decide (r.length ≤ 20)) = true ∧ wr = w.alloc (.cells #[.slice A ts.length c, .int .i64 cores, .slice rA rs.length rc, .int .i64 untl] 25)) (fun v _ => rs.length - (intOf v).toNat)
  case atStart => exact ⟨0, Nat.zero_le _, rfl, rfl, rfl⟩
  case round =>
    obtain ⟨k, hk, rfl, hall, hwr⟩ := hrel
    rw [hwr]
    clear hwr
    by_cases hlt2 : k < rs.length
    · have q0 : (k : Int) < (rs.length : Int) := by omega
      obtain ⟨r, hr⟩ : ∃ r, rs[k]? = some r := ⟨_, List.getElem?_eq_getElem hlt2⟩
      obtain ⟨Ai, ci, hsi, _⟩ := HRR.out k r hr
      obtain ⟨rb, ro, rfl, _, cr⟩ := HROW.out.at hsi
      have htk : rs.take (k + 1) = rs.take k ++ [r] := by
        obtain ⟨h1, h2⟩ := List.getElem?_eq_some_iff.1 hr
        rw [List.take_succ_eq_append_getElem h1, h2]
      by_cases hbig : 20 < r.length
      · have d1 : decide ((20 : Int) < (r.length : Int)) = true := by simp; omega
        have HRT := Lib.hid (show R = true by
          rw [hR, show (rs.all fun r => decide (r.length ≤ 20)) = false from List.all_eq_false.2 ⟨r, List.mem_of_getElem? hr, by simp; omega⟩]; rfl)
        clear hbig hsi hr htk hall
        go_wp2_with fail
        go_ret
        rw [HRT.out]
        exact ⟨rfl, HB.out⟩
      · have d1 : decide ((20 : Int) < (r.length : Int)) = false := by simp; omega
        have HAL := Lib.hid (show (rs.take (k + 1)).all (fun r => decide (r.length ≤ 20)) = true by rw [htk, List.all_append, hall]; simp; omega)
        clear hbig hsi hr htk hall
        go_wp2_with fail
        exact ⟨⟨k + 1, hlt2, by simp, HAL.out, by simp⟩, by simp [intOf]; omega⟩
    · have q0 : ¬ (k : Int) < (rs.length : Int) := by omega
      rw [List.take_of_length_le (by omega)] at hall
      rw [hall] at hR
      have hcs : (decide ((8 : Int) < (ts.length : Int)) = true ∧ R = true) ∨ (decide ((8 : Int) < (ts.length : Int)) = false ∧ ((decide ((10 : Int) < (rs.length : Int)) = true ∧ R = true) ∨ (decide ((10 : Int) < (rs.length : Int)) = false ∧ decide ((100 : Int) < untl) = R))) := by
        by_cases h1 : 8 < ts.length
        · exact .inl ⟨by simp; omega, by rw [hR, decide_eq_true h1]; rfl⟩
        · right
          refine ⟨by simp; omega, ?_⟩
          rw [decide_eq_false h1] at hR
          by_cases h2 : 10 < rs.length
          · exact .inl ⟨by simp; omega, by rw [hR, decide_eq_true h2]; rfl⟩
          · right
            rw [decide_eq_false h2] at hR
            exact ⟨by simp; omega, by rw [hR]; simp⟩
      clear hR hall
      rcases hcs with ⟨d1, hRt⟩ | ⟨d1, ⟨d2, hRt⟩ | ⟨d2, hRt⟩⟩
      · have HRT := Lib.hid hRt
        clear hRt
        go_wp2_with fail
        go_ret
        rw [HRT.out]
        exact ⟨rfl, HB.out⟩
      · have HRT := Lib.hid hRt
        clear hRt
        go_wp2_with fail
        go_ret
        rw [HRT.out]
        exact ⟨rfl, HB.out⟩
      · have HRT := Lib.hid hRt
        clear hRt
        go_wp2_with fail
        go_ret
        rw [← HRT.out]
        exact ⟨rfl, HB.out⟩
theorem lvalid_any (p : Pl) (w : World) (hp : PlIn w p) (hl : p.m.ts.length ≤ 1000000) : Calls Try.prog 14 #[.agg (plV p)] w fun e w' => e = .returned (.bool (SL.valid p.m.ts p.cores p.m.rs && decide (0 ≤ p.untl))) ∧ Below w.heap.size w w' := by
  obtain ⟨M, cores, untl⟩ := p
  obtain ⟨ts, A, c, rs, rA, rc⟩ := M
  have hb := (Below.refl w.heap.size w).alloc (Nat.le_refl _) (.cells #[.slice A ts.length c, .int .i64 cores, .slice rA rs.length rc, .int .i64 untl] 25)
  have hk := Blk.new w 25 #[.slice A ts.length c, .int .i64 cores, .slice rA rs.length rc, .int .i64 untl]
  have HB := Lib.hid hb
  have HK := Lib.hid hk
  have hpi := (hp.below hb)
  have HPI := Lib.hid hpi
  obtain ⟨a0, a1, a2, a3⟩ := hk.four.1
  rw [show plV ⟨⟨ts, A, c, rs, rA, rc⟩, cores, untl⟩ = #[.slice A ts.length c, .int .i64 cores, .slice rA rs.length rc, .int .i64 untl] from rfl]
  have HPL := Lib.hid (plain_any ts A c (w.alloc (.cells #[.slice A ts.length c, .int .i64 cores, .slice rA rs.length rc, .int .i64 untl] 25)).drew hpi.row hl)
  show Calls _ _ _ _ fun e w' => e = .returned (.bool (SL.valid ts cores rs && decide (0 ≤ untl))) ∧ _
  generalize hV : SL.valid ts cores rs = V at *
  have HV := Lib.hid hV
  clear hb hk hpi hp hV hl
  cases V with
  | false =>
    go_enter Try.func14, Try.ntmps14
    go_wp2_with fail
    have HAFT := Lib.hid (fun (w5 : World) (A' : Option Addr) (c' : Nat) (hr5 : Row w5 A' (tkRow ts)) (hb5 : Below (w.alloc (.cells #[.slice A ts.length c, .int .i64 cores, .slice rA rs.length rc, .int .i64 untl] 25)).drew.heap.size (w.alloc (.cells #[.slice A ts.length c, .int .i64 cores, .slice rA rs.length rc, .int .i64 untl] 25)).drew w5) =>
      (show (w5.cell? ⟨w.heap.size, 0, none⟩ = some (.slice A ts.length c) ∧ w5.cell? ⟨w.heap.size, 1, none⟩ = some (.int .i64 cores) ∧ w5.cell? ⟨w.heap.size, 2, none⟩ = some (.slice rA rs.length rc) ∧ w5.cell? ⟨w.heap.size, 3, none⟩ = some (.int .i64 untl)) ∧ Below w.heap.size w w5 ∧
        Calls Try.prog 30 #[.slice A' ts.length c', .int .i64 cores, .slice rA rs.length rc] w5 (fun e w' => e = .returned (.bool false) ∧ ∃ q, w' = w5.drewN q) from by
        refine ⟨(Blk.below (show Blk (w.alloc (.cells #[.slice A ts.length c, .int .i64 cores, .slice rA rs.length rc, .int .i64 untl] 25)).drew w.heap.size 25 _ from HK.out) hb5).four.1, ?_, ?_⟩
        · exact (HB.out.drew).trans (hb5.mono HB.out.size)
        · have h := rvalid_any ts A' c' rs (.slice rA rs.length rc) cores w5 hr5 ((show PlIn (w.alloc (.cells #[.slice A ts.length c, .int .i64 cores, .slice rA rs.length rc, .int .i64 untl] 25)).drew ⟨⟨ts, A, c, rs, rA, rc⟩, cores, untl⟩ from ⟨HPI.out.row, HPI.out.rel, HPI.out.lt, HPI.out.lr, HPI.out.lx⟩).below hb5).rel HPI.out.lx
          rw [HV.out] at h
          exact h))
    go_region_law (first | (go_simp; go_at_call 31; (with_reducible refine HPL.out.mono ?_); rintro e w5 ⟨A', c', rfl, hr5, hb5⟩; obtain ⟨⟨x0, x1, x2, x3⟩, hbb5, hcv5⟩ := HAFT.out w5 A' c' hr5 hb5; have HB5 := Lib.hid hbb5; have HV5 := Lib.hid hcv5; clear hr5 hb5 hbb5 hcv5) | (go_simp; go_at_call 30; (with_reducible refine HV5.out.mono ?_); rintro e w6 ⟨rfl, q6, hw6⟩; have HW6 := Lib.hid hw6; clear hw6; go_wp2_with fail; refine wpAny_take (i := 8) (v := ?_) rfl (by kernel_rfl) (by kernel_rfl) (by kernel_rfl) (fun _ _ _ h => h) (Or.inl ⟨by rfl, by intro w; go_simp; with_reducible rfl⟩) ?_; refine wpAny_take (i := 9) (v := undef) rfl (by kernel_rfl) (by kernel_rfl) (by kernel_rfl) (fun _ _ _ h => h) (Or.inr ⟨by rfl, rfl⟩) ?_; refine wpAny_take (i := 10) (v := undef) rfl (by kernel_rfl) (by kernel_rfl) (by kernel_rfl) (fun _ _ _ h => h) (Or.inr ⟨by rfl, rfl⟩) ?_; refine wpAny_take (i := 11) (v := undef) rfl (by kernel_rfl) (by kernel_rfl) (by kernel_rfl) (fun _ _ _ h => h) (Or.inr ⟨by rfl, rfl⟩) ?_; refine wpAny_take (i := 12) (v := ?_) rfl (by kernel_rfl) (by kernel_rfl) (by kernel_rfl) (fun _ _ _ h => h) (Or.inl ⟨by rfl, by intro w; go_simp; with_reducible rfl⟩) ?_; refine wpAny_take (i := 13) (v := ?_) rfl (by kernel_rfl) (by kernel_rfl) (by kernel_rfl) (fun _ _ _ h => h) (Or.inl ⟨by rfl, by intro w; go_simp; with_reducible rfl⟩) ?_))
    all_goals (go_wp2_with fail; go_ret; refine ⟨rfl, ?_⟩; rw [HW6.out]; exact ⟨HB5.out.os, HB5.out.tape, HB5.out.output, HB5.out.size, HB5.out.block⟩)
  | true =>
    go_enter Try.func14, Try.ntmps14
    go_wp2_with fail
    have HAFT := Lib.hid (fun (w5 : World) (A' : Option Addr) (c' : Nat) (hr5 : Row w5 A' (tkRow ts)) (hb5 : Below (w.alloc (.cells #[.slice A ts.length c, .int .i64 cores, .slice rA rs.length rc, .int .i64 untl] 25)).drew.heap.size (w.alloc (.cells #[.slice A ts.length c, .int .i64 cores, .slice rA rs.length rc, .int .i64 untl] 25)).drew w5) =>
      (show (w5.cell? ⟨w.heap.size, 0, none⟩ = some (.slice A ts.length c) ∧ w5.cell? ⟨w.heap.size, 1, none⟩ = some (.int .i64 cores) ∧ w5.cell? ⟨w.heap.size, 2, none⟩ = some (.slice rA rs.length rc) ∧ w5.cell? ⟨w.heap.size, 3, none⟩ = some (.int .i64 untl)) ∧ Below w.heap.size w w5 ∧
        Calls Try.prog 30 #[.slice A' ts.length c', .int .i64 cores, .slice rA rs.length rc] w5 (fun e w' => e = .returned (.bool true) ∧ ∃ q, w' = w5.drewN q) from by
        refine ⟨(Blk.below (show Blk (w.alloc (.cells #[.slice A ts.length c, .int .i64 cores, .slice rA rs.length rc, .int .i64 untl] 25)).drew w.heap.size 25 _ from HK.out) hb5).four.1, ?_, ?_⟩
        · exact (HB.out.drew).trans (hb5.mono HB.out.size)
        · have h := rvalid_any ts A' c' rs (.slice rA rs.length rc) cores w5 hr5 ((show PlIn (w.alloc (.cells #[.slice A ts.length c, .int .i64 cores, .slice rA rs.length rc, .int .i64 untl] 25)).drew ⟨⟨ts, A, c, rs, rA, rc⟩, cores, untl⟩ from ⟨HPI.out.row, HPI.out.rel, HPI.out.lt, HPI.out.lr, HPI.out.lx⟩).below hb5).rel HPI.out.lx
          rw [HV.out] at h
          exact h))
    go_region_law (first | (go_simp; go_at_call 31; (with_reducible refine HPL.out.mono ?_); rintro e w5 ⟨A', c', rfl, hr5, hb5⟩; obtain ⟨⟨x0, x1, x2, x3⟩, hbb5, hcv5⟩ := HAFT.out w5 A' c' hr5 hb5; have HB5 := Lib.hid hbb5; have HV5 := Lib.hid hcv5; clear hr5 hb5 hbb5 hcv5) | (go_simp; go_at_call 30; (with_reducible refine HV5.out.mono ?_); rintro e w6 ⟨rfl, q6, hw6⟩; rw [hw6]; clear hw6))
    all_goals (go_wp2_with fail; go_ret; refine ⟨rfl, ?_⟩; exact ⟨HB5.out.os, HB5.out.tape, HB5.out.output, HB5.out.size, HB5.out.block⟩)
end
end Go.Proofs.Ytdlbokcndbbgnaa
