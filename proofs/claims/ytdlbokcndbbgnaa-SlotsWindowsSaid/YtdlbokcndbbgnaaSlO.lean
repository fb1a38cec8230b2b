/- simulated: the schedule of a plan within the limits. -/
import Derived.Test.YtdlbokcndbbgnaaSlN
import Derived.Test.YtdlbokcndbbgnaaSlI
import Derived.Test.YtdlbokcndbbgnaaSlL
namespace Go.Proofs.Ytdlbokcndbbgnaa
open Go.RowKit Go.Maps Go.Sort Go.Lib
open SL (Tk Jb Ms Cd)
def valP (p : Pl) : Bool := SL.valid p.m.ts p.cores p.m.rs && decide (0 ≤ p.untl)
def okP (p : Pl) : Bool := !greatP p && valP p
def simP (p : Pl) : List (List Nat) × List Ms := SL.simulate p.m.ts p.m.rs p.cores.toNat p.untl.toNat
/-- What a plan within the limits is. -/
structure OkP (p : Pl) : Prop where
  val : SL.valid p.m.ts p.cores p.m.rs = true
  u : ∃ n : Nat, p.untl = (n : Int) ∧ n ≤ 100
  c : ∃ k : Nat, p.cores = (k : Int) ∧ 1 ≤ k ∧ k ≤ 8
  t8 : p.m.ts.length ≤ 8
  ok : SL.okTs p.m.ts = true
  len : p.m.rs.length = p.m.ts.length
  oks : SL.okRels p.m.ts p.m.rs = true
theorem val_parts {ts : List Tk} {cores : Int} {rs : List (List Int)} (h : SL.valid ts cores rs = true) : SL.okTs ts = true ∧ 1 ≤ cores ∧ cores ≤ 8 ∧ rs.length = ts.length ∧ SL.okRels ts rs = true := by
  unfold SL.valid at h
  simp only [Bool.and_eq_true, decide_eq_true_eq] at h
  obtain ⟨⟨⟨⟨h1, h2⟩, h3⟩, h4⟩, h5⟩ := h
  exact ⟨h1, h2, h3, h4, h5⟩
theorem great_parts {p : Pl} (h : greatP p = false) : p.m.ts.length ≤ 8 ∧ p.untl ≤ 100 ∧ (∀ r ∈ p.m.rs, r.length ≤ 20) ∧ p.m.rs.length ≤ 10 := by
  unfold greatP at h
  simp only [Bool.or_eq_false_iff, decide_eq_false_iff_not, Bool.not_eq_false', List.all_eq_true, decide_eq_true_eq] at h
  obtain ⟨⟨⟨h1, h2⟩, h3⟩, h4⟩ := h
  exact ⟨by omega, by omega, h1, by omega⟩
theorem okP_of {p : Pl} (h : okP p = true) : OkP p := by
  unfold okP valP at h
  simp only [Bool.and_eq_true, Bool.not_eq_true', decide_eq_true_eq] at h
  obtain ⟨hg, hv, h0⟩ := h
  obtain ⟨g1, g2, _, _⟩ := great_parts hg
  obtain ⟨v1, v2, v3, v4, v5⟩ := val_parts hv
  exact ⟨hv, ⟨p.untl.toNat, by omega, by omega⟩, ⟨p.cores.toNat, by omega, by omega, by omega⟩, g1, v1, v4, v5⟩
theorem mc_of {w : World} {p : Pl} (hp : PlIn w p) (h : SL.valid p.m.ts p.cores p.m.rs = true) : MC w p.m :=
  ⟨(val_parts h).1, (val_parts h).2.2.2.1, (val_parts h).2.2.2.2, hp.row, hp.rel⟩
section
set_option maxHeartbeats 2000000
set_option maxRecDepth 100000
/-- Simulate at a plan within the limits. -/
theorem sim_ok (p : Pl) (w : World) (hp : PlIn w p) (h : okP p = true) :
    Calls Try.prog 11 #[.slice p.m.A p.m.ts.length p.m.c, .int .i64 p.cores, .slice p.m.rA p.m.rs.length p.m.rc, .int .i64 p.untl] w fun e w' => ∃ gs mv, e = .returned (.tuple #[.slice (some ⟨gs, 0, none⟩) p.untl.toNat p.untl.toNat, mv, .int .i64 0]) ∧ w.heap.size ≤ gs ∧ SchedS w' gs p.untl.toNat p.untl.toNat (simP p).1 ∧
      w'.ownsRow w.heap.size 88 3 mv (simP p).2.length (msC (simP p).2) ∧ Below w.heap.size w w' := by
  have ho := okP_of h
  obtain ⟨n, hn, hn1⟩ := ho.u
  obtain ⟨k, hk, hk1, hk8⟩ := ho.c
  have hv := ho.val
  rw [hk] at hv
  have hs := simulate_any p.m k n w (mc_of hp ho.val) hv hp.lx hp.lr hk8 (by omega)
  have e1 : simP p = SL.simulate p.m.ts p.m.rs k n := by unfold simP; rw [hk, hn, Int.toNat_natCast, Int.toNat_natCast]
  rw [e1, hk, hn, Int.toNat_natCast]
  exact hs
def SimE (p : Pl) (w : World) (e : Ending) (w' : World) : Prop :=
  Below w.heap.size w w' ∧ ((okP p = false ∧ e = .returned (.tuple #[.slice none 0 0, .slice none 0 0, .bool false])) ∨
    (okP p = true ∧ ∃ gs mv, e = .returned (.tuple #[.slice (some ⟨gs, 0, none⟩) p.untl.toNat p.untl.toNat, mv, .bool true]) ∧ w.heap.size ≤ gs ∧ SchedS w' gs p.untl.toNat p.untl.toNat (simP p).1 ∧
      w'.ownsRow w.heap.size 88 3 mv (simP p).2.length (msC (simP p).2)))
theorem simulated_any (p : Pl) (w : World) (hp : PlIn w p) : Calls Try.prog 6 #[.agg (plV p)] w (SimE p w) := by
  have hnot : ∀ (x : Bool) (w : World), (Op.unary .not (.bool x)).run Try.prog w = .ok (.bool (!x)) w := fun _ _ => rfl
  obtain ⟨M, cores, untl⟩ := p
  obtain ⟨ts, A, c, rs, rA, rc⟩ := M
  have hb := (Below.refl w.heap.size w).alloc (Nat.le_refl _) (.cells (plV ⟨⟨ts, A, c, rs, rA, rc⟩, cores, untl⟩) 25)
  have hk := Blk.new w 25 (plV ⟨⟨ts, A, c, rs, rA, rc⟩, cores, untl⟩)
  have HB := Lib.hid hb
  have HK := Lib.hid hk
  have hpi := (hp.below hb)
  have HPI := Lib.hid hpi
  have HGR := Lib.hid (great_any _ _ hpi)
  rw [show plV ⟨⟨ts, A, c, rs, rA, rc⟩, cores, untl⟩ = #[.slice A ts.length c, .int .i64 cores, .slice rA rs.length rc, .int .i64 untl] from rfl] at *
  obtain ⟨a0, a1, a2, a3⟩ := hk.four.1
  have hO : okP ⟨⟨ts, A, c, rs, rA, rc⟩, cores, untl⟩ = (!greatP ⟨⟨ts, A, c, rs, rA, rc⟩, cores, untl⟩ && valP ⟨⟨ts, A, c, rs, rA, rc⟩, cores, untl⟩) := rfl
  have hL : greatP ⟨⟨ts, A, c, rs, rA, rc⟩, cores, untl⟩ = false → ts.length ≤ 8 := fun h => (great_parts h).1
  have HL := Lib.hid hL
  generalize hG : greatP ⟨⟨ts, A, c, rs, rA, rc⟩, cores, untl⟩ = G at *
  have HO := Lib.hid hO
  clear hb hk hpi hp hG hO hL
  cases G with
  | true =>
    go_enter Try.func6, Try.ntmps6
    go_wp2_with fail
    (with_reducible refine HGR.out.mono ?_)
    rintro e w1 ⟨rfl, hb1⟩
    have HB1 := Lib.hid hb1
    clear hb1
    go_wp2_with fail
    go_ret3
    exact ⟨HB.out.trans (HB1.out.mono HB.out.size), .inl ⟨by rw [HO.out]; rfl, rfl⟩⟩
  | false =>
    go_enter Try.func6, Try.ntmps6
    go_wp2_with fail
    (with_reducible refine HGR.out.mono ?_)
    rintro e w1 ⟨rfl, hb1⟩
    have hpi1 := HPI.out.below hb1
    have HPI1 := Lib.hid hpi1
    have HLV := Lib.hid (lvalid_any ⟨⟨ts, A, c, rs, rA, rc⟩, cores, untl⟩ w1 hpi1 (by have := HL.out (by first | rfl | trivial); show ts.length ≤ _; omega))
    obtain ⟨b0, b1, b2, b3⟩ := (HK.out.below hb1).four.1
    have HB1 := Lib.hid (HB.out.trans (hb1.mono HB.out.size))
    have HK1 := Lib.hid (HK.out.below hb1)
    have HV := Lib.hid (show (SL.valid ts cores rs && decide (0 ≤ untl)) = valP ⟨⟨ts, A, c, rs, rA, rc⟩, cores, untl⟩ from rfl)
    rw [show (SL.valid (⟨⟨ts, A, c, rs, rA, rc⟩, cores, untl⟩ : Pl).m.ts (⟨⟨ts, A, c, rs, rA, rc⟩, cores, untl⟩ : Pl).cores (⟨⟨ts, A, c, rs, rA, rc⟩, cores, untl⟩ : Pl).m.rs && decide (0 ≤ (⟨⟨ts, A, c, rs, rA, rc⟩, cores, untl⟩ : Pl).untl)) = valP ⟨⟨ts, A, c, rs, rA, rc⟩, cores, untl⟩ from rfl] at HLV
    rw [show plV ⟨⟨ts, A, c, rs, rA, rc⟩, cores, untl⟩ = #[.slice A ts.length c, .int .i64 cores, .slice rA rs.length rc, .int .i64 untl] from rfl] at HLV
    clear hb1 hpi1
    generalize valP ⟨⟨ts, A, c, rs, rA, rc⟩, cores, untl⟩ = V at *
    cases V with
    | false =>
      go_wp2_with fail
      (with_reducible refine HLV.out.mono ?_)
      rintro e w2 ⟨rfl, hb2⟩
      have HB2 := Lib.hid hb2
      clear hb2
      go_wp2_with fail
      go_ret3
      exact ⟨HB1.out.trans (HB2.out.mono HB1.out.size), .inl ⟨by rw [HO.out]; rfl, rfl⟩⟩
    | true =>
      go_wp2_with fail
      (with_reducible refine HLV.out.mono ?_)
      rintro e w2 ⟨rfl, hb2⟩
      have hpi2 := HPI1.out.below hb2
      have HOK := Lib.hid (show okP ⟨⟨ts, A, c, rs, rA, rc⟩, cores, untl⟩ = true by rw [HO.out]; rfl)
      have HSM := Lib.hid (sim_ok _ w2 hpi2 HOK.out)
      obtain ⟨c0, c1, c2, c3⟩ := (HK1.out.below hb2).four.1
      have HB2 := Lib.hid (HB1.out.trans (hb2.mono HB1.out.size))
      clear hb2 hpi2
      go_wp2_with fail
      (with_reducible refine HSM.out.mono ?_)
      rintro e w3 ⟨gs, mv, rfl, hgs, hsc, how, hb3⟩
      have HS3 := Lib.hid hsc
      have HW3 := Lib.hid how
      have HB3 := Lib.hid hb3
      clear hsc how hb3 HSM
      go_wp2_with fail
      go_ret3
      exact ⟨HB2.out.trans (HB3.out.mono HB2.out.size), .inr ⟨HOK.out, gs, mv, rfl, Nat.le_trans HB2.out.size hgs, HS3.out, own_base HW3.out HB2.out.size⟩⟩
end
end Go.Proofs.Ytdlbokcndbbgnaa
