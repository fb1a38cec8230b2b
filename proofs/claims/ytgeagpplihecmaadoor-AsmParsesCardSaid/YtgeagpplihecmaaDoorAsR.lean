/- The contracts of the reference's validity (layer 4). -/
import Derived.Test.YtgeagpplihecmaaDoorAsL
namespace Go.Proofs.YtgeagpplihecmaaDoor
open Go.RowKit
open AS (Ins)
def rs4 (op : Nat) : AS.Bytes := ((AS.shape op).filter (· < 3)).map fun k => if k = 0 then 65 else if k = 1 then 66 else 67
def rlo (op : Nat) : Int := if (AS.shape op).contains 3 then AS.lo op else 1
def rhi (op : Nat) : Int := if (AS.shape op).contains 3 then AS.hi op else 0
def rg (x : Int) (u : Bool) : Bool := if u then decide (0 ≤ x) && decide (x < 16) else x == 0
theorem rs4_len : ∀ op : Fin 30, decide (0 < (rs4 op.val).length) = (AS.shape op.val).contains 0 ∧ decide (1 < (rs4 op.val).length) = (AS.shape op.val).contains 1 ∧ decide (2 < (rs4 op.val).length) = (AS.shape op.val).contains 2 ∧ (rs4 op.val).length ≤ 3 ∧ decide (rhi op.val < rlo op.val) = !(AS.shape op.val).contains 3 := by decide +kernel
theorem lo_hi : ∀ op : Fin 30, -131072 ≤ rlo op.val ∧ rlo op.val ≤ 131072 ∧ -131072 ≤ rhi op.val ∧ rhi op.val ≤ 131072 := by decide +kernel
theorem inside_rg (i : Ins) (k : Nat) (hk : k < 3) : AS.inside i k = rg (i.get k) ((AS.shape i.op).contains k) := by
  rw [AS.inside_eq, rg]
  have hk3 : k ≠ 3 := by omega
  rw [if_neg hk3, if_neg hk3]
  cases (AS.shape i.op).contains k with
  | true => simp only [if_true]; congr 1; exact decide_eq_decide.2 (by omega)
  | false =>
    simp only [Bool.false_eq_true, if_false]
    by_cases h : i.get k = 0
    · simp [h]
    · rw [beq_eq_false_iff_ne.2 h, Bool.and_eq_false_iff]
      rcases Int.lt_or_lt_of_ne h with h | h
      · left; exact decide_eq_false (by omega)
      · right; exact decide_eq_false (by omega)
theorem inside_im (i : Ins) : AS.inside i 3 = if (AS.shape i.op).contains 3 then decide (rlo i.op ≤ i.imm) && decide (i.imm ≤ rhi i.op) else i.imm == 0 := by
  rw [AS.inside_eq, rlo, rhi, show i.get 3 = i.imm from rfl]
  cases (AS.shape i.op).contains 3 with
  | true => rfl
  | false =>
    simp only [Bool.false_eq_true, if_false]
    by_cases h : i.imm = 0
    · simp [h]
    · rw [beq_eq_false_iff_ne.2 h, Bool.and_eq_false_iff]
      rcases Int.lt_or_lt_of_ne h with h | h
      · left; exact decide_eq_false (by omega)
      · right; exact decide_eq_false (by omega)
theorem valid_rg (i : Ins) (h : i.op < 30) : AS.valid i = (rg i.a ((AS.shape i.op).contains 0) && (rg i.b ((AS.shape i.op).contains 1) && (rg i.c ((AS.shape i.op).contains 2) && (if (AS.shape i.op).contains 3 then decide (rlo i.op ≤ i.imm) && decide (i.imm ≤ rhi i.op) else i.imm == 0)))) := by
  have hv : AS.valid i = (decide (i.op < 30) && (AS.inside i 0 && (AS.inside i 1 && (AS.inside i 2 && AS.inside i 3)))) := rfl
  rw [hv, inside_rg i 0 (by omega), inside_rg i 1 (by omega), inside_rg i 2 (by omega), inside_im, decide_eq_true h, Bool.true_and]
  rfl
theorem results_tmp4 {fn : Func} {t u v x : Tmp} (h : fn.results = #[.tmp t, .tmp u, .tmp v, .tmp x]) (tmps : Array Value) (P : Program) (w : World) :
    (results fn tmps).run P w = .ok (.tuple #[tmps.getD t undef, tmps.getD u undef, tmps.getD v undef, tmps.getD x undef]) w := by
  simp [results, h]
section
set_option maxHeartbeats 1000000
set_option maxRecDepth 100000
theorem reg4_any (x : Int) (u : Bool) (w : World) : Calls Tryd.prog 71 #[.int .i64 x, .bool u] w fun e w' => e = .returned (.bool (rg x u)) ∧ w = w' := by
  have hnot : ∀ (x : Bool) (w : World), (Op.unary .not (.bool x)).run Tryd.prog w = .ok (.bool (!x)) w := fun _ _ => rfl
  cases u with
  | false =>
    go_enter Tryd.func71, Tryd.ntmps71
    go_wp2_with fail
    go_ret
    exact ⟨rfl, rfl⟩
  | true =>
    by_cases h : 0 ≤ x
    · have e : decide (0 ≤ x) = true := decide_eq_true h
      have er : rg x true = decide (x < 16) := by unfold rg; simp [h]
      go_enter Tryd.func71, Tryd.ntmps71
      go_wp2_with fail
      go_ret
      exact ⟨by rw [er]; rfl, rfl⟩
    · have e : decide (0 ≤ x) = false := decide_eq_false h
      have er : rg x true = false := by unfold rg; simp [h]
      rw [er]
      clear er
      go_enter Tryd.func71, Tryd.ntmps71
      go_wp2_with fail
      go_ret
      exact ⟨rfl, rfl⟩
theorem format4_any (op : Nat) (h : op < 30) (w : World) : Calls Tryd.prog 70 #[.int .u8 (op : Int)] w fun e w' => e = .returned (.tuple #[.string ⟨(rs4 op).toArray⟩, .int .i64 (rlo op), .int .i64 (rhi op), .bool true]) ∧ w = w' := by
  by_cases h1 : 2 ≤ op ∧ op ≤ 13
  · have hs : rs4 op = [65, 66, 67] ∧ rlo op = 1 ∧ rhi op = 0 := by
      have : ∀ m : Fin 30, 2 ≤ m.val ∧ m.val ≤ 13 → rs4 m.val = [65, 66, 67] ∧ rlo m.val = 1 ∧ rhi m.val = 0 := by decide +kernel
      exact this ⟨op, h⟩ h1
    obtain ⟨hs1, hs2, hs3⟩ := hs
    obtain ⟨h2, h3⟩ := h1
    have HS1 := Lib.hid hs1
    have HS2 := Lib.hid hs2
    have HS3 := Lib.hid hs3
    have p1 : decide ((2 : Int) ≤ (op : Int)) = true := decide_eq_true (by omega)
    have p2 : decide ((op : Int) ≤ 13) = true := decide_eq_true (by omega)
    clear hs1 hs2 hs3
    go_enter Tryd.func70, Tryd.ntmps70
    go_wp2_with fail
    (try simp only [Exit.inBlock, Exit.then]); refine bodyPost_ret (results_tmp4 rfl _ _ _) rfl ?_
    exact ⟨by rw [HS1.out, HS2.out, HS3.out]; rfl, rfl⟩
  · have h2 : op = 0 ∨ op = 1 ∨ op = 14 ∨ op = 15 ∨ op = 16 ∨ op = 17 ∨ op = 18 ∨ op = 19 ∨ op = 20 ∨ op = 21 ∨ op = 22 ∨ op = 23 ∨ op = 24 ∨ op = 25 ∨ op = 26 ∨ op = 27 ∨ op = 28 ∨ op = 29 := by omega
    clear h1 h
    rcases h2 with rfl | rfl | rfl | rfl | rfl | rfl | rfl | rfl | rfl | rfl | rfl | rfl | rfl | rfl | rfl | rfl | rfl | rfl
    all_goals
      go_enter Tryd.func70, Tryd.ntmps70
      go_wp2_with fail
      (try simp only [Exit.inBlock, Exit.then]); refine bodyPost_ret (results_tmp4 rfl _ _ _) rfl ?_
      exact ⟨rfl, rfl⟩
theorem valid4_any (i : Ins) (h30 : i.op < 30) (w : World) : Calls Tryd.prog 58 #[.agg (insV i)] w fun e w' => e = .returned (.bool (AS.valid i)) ∧ Below w.heap.size w w' := by
  have hnot : ∀ (x : Bool) (w : World), (Op.unary .not (.bool x)).run Tryd.prog w = .ok (.bool (!x)) w := fun _ _ => rfl
  have hb1 : Below w.heap.size w (w.alloc (.cells (insV i) 48)) := (Below.refl _ _).alloc (Nat.le_refl _) _
  have hk1 := Blk.new w 48 (insV i)
  have x0 : (w.alloc (.cells (insV i) 48)).cell? ⟨w.heap.size, 0, none⟩ = some (.int .u8 (i.op : Int)) := hk1.cell 0
  have x1 : (w.alloc (.cells (insV i) 48)).cell? ⟨w.heap.size, 1, none⟩ = some (.int .i64 i.a) := hk1.cell 1
  have x2 : (w.alloc (.cells (insV i) 48)).cell? ⟨w.heap.size, 2, none⟩ = some (.int .i64 i.b) := hk1.cell 2
  have x3 : (w.alloc (.cells (insV i) 48)).cell? ⟨w.heap.size, 3, none⟩ = some (.int .i64 i.c) := hk1.cell 3
  have x4 : (w.alloc (.cells (insV i) 48)).cell? ⟨w.heap.size, 4, none⟩ = some (.int .i64 i.imm) := hk1.cell 4
  have HV := Lib.hid (valid_rg i h30)
  obtain ⟨l0, l1, l2, l3, l4⟩ := rs4_len ⟨i.op, h30⟩
  simp only [] at l0 l1 l2 l3 l4
  obtain ⟨b0, b1, b2, b3⟩ := lo_hi ⟨i.op, h30⟩
  simp only [] at b0 b1 b2 b3
  have HFO := Lib.hid (format4_any i.op h30)
  obtain ⟨S, hS⟩ : ∃ S : ByteArray, S = ⟨(rs4 i.op).toArray⟩ := ⟨_, rfl⟩
  have hSz : S.size = (rs4 i.op).length := by rw [hS]; simp [ByteArray.size]
  rw [← hS] at HFO
  rw [← hSz] at l0 l1 l2 l3
  have HRG := Lib.hid (fun x u W => reg4_any x u W)
  have HB1 := Lib.hid hb1
  clear hk1 hb1 hS hSz
  generalize rlo i.op = lo at *
  generalize rhi i.op = hi at *
  generalize (AS.shape i.op).contains 0 = u0 at *
  generalize (AS.shape i.op).contains 1 = u1 at *
  generalize (AS.shape i.op).contains 2 = u2 at *
  generalize (AS.shape i.op).contains 3 = u3 at *
  have e1 : decide ((1 : Int) < (S.size : Int)) = u1 := by rw [← l1]; exact decide_eq_decide.2 (by omega)
  have e2 : decide ((2 : Int) < (S.size : Int)) = u2 := by rw [← l2]; exact decide_eq_decide.2 (by omega)
  clear l1 l2
  generalize AS.valid i = V at *
  have H0 := Lib.hid (HRG.out i.a u0 (w.alloc (.cells (insV i) 48)))
  have H1 := Lib.hid (HRG.out i.b u1 (w.alloc (.cells (insV i) 48)))
  have H2 := Lib.hid (HRG.out i.c u2 (w.alloc (.cells (insV i) 48)))
  generalize rg i.a u0 = r0 at *
  generalize rg i.b u1 = r1 at *
  generalize rg i.c u2 = r2 at *
  cases r0 with
  | false =>
    go_enter Tryd.func58, Tryd.ntmps58
    go_wp2_with fail
    refine (HFO.out _).mono ?_
    rintro e w2 ⟨rfl, rfl⟩
    go_wp2_with fail
    refine H0.out.mono ?_
    rintro e w2 ⟨rfl, rfl⟩
    go_wp2_with fail
    go_ret
    exact ⟨by rw [HV.out]; rfl, HB1.out⟩
  | true =>
    cases r1 with
    | false =>
      go_enter Tryd.func58, Tryd.ntmps58
      go_wp2_with fail
      refine (HFO.out _).mono ?_
      rintro e w2 ⟨rfl, rfl⟩
      go_wp2_with fail
      refine H0.out.mono ?_
      rintro e w2 ⟨rfl, rfl⟩
      go_wp2_with fail
      refine H1.out.mono ?_
      rintro e w2 ⟨rfl, rfl⟩
      go_wp2_with fail
      go_ret
      exact ⟨by rw [HV.out]; rfl, HB1.out⟩
    | true =>
      cases r2 with
      | false =>
        go_enter Tryd.func58, Tryd.ntmps58
        go_wp2_with fail
        refine (HFO.out _).mono ?_
        rintro e w2 ⟨rfl, rfl⟩
        go_wp2_with fail
        refine H0.out.mono ?_
        rintro e w2 ⟨rfl, rfl⟩
        go_wp2_with fail
        refine H1.out.mono ?_
        rintro e w2 ⟨rfl, rfl⟩
        go_wp2_with fail
        refine H2.out.mono ?_
        rintro e w2 ⟨rfl, rfl⟩
        go_wp2_with fail
        go_ret
        exact ⟨by rw [HV.out]; rfl, HB1.out⟩
      | true =>
        cases u3 with
        | false =>
          have e3 : decide (hi < lo) = true := l4
          go_enter Tryd.func58, Tryd.ntmps58
          go_wp2_with fail
          refine (HFO.out _).mono ?_
          rintro e w2 ⟨rfl, rfl⟩
          go_wp2_with fail
          refine H0.out.mono ?_
          rintro e w2 ⟨rfl, rfl⟩
          go_wp2_with fail
          refine H1.out.mono ?_
          rintro e w2 ⟨rfl, rfl⟩
          go_wp2_with fail
          refine H2.out.mono ?_
          rintro e w2 ⟨rfl, rfl⟩
          go_wp2_with fail
          go_ret
          exact ⟨by rw [HV.out]; rfl, HB1.out⟩
        | true =>
          have e3 : decide (hi < lo) = false := l4
          by_cases hlo : lo ≤ i.imm
          · have e4 : decide (lo ≤ i.imm) = true := decide_eq_true hlo
            go_enter Tryd.func58, Tryd.ntmps58
            go_wp2_with fail
            refine (HFO.out _).mono ?_
            rintro e w2 ⟨rfl, rfl⟩
            go_wp2_with fail
            refine H0.out.mono ?_
            rintro e w2 ⟨rfl, rfl⟩
            go_wp2_with fail
            refine H1.out.mono ?_
            rintro e w2 ⟨rfl, rfl⟩
            go_wp2_with fail
            refine H2.out.mono ?_
            rintro e w2 ⟨rfl, rfl⟩
            go_wp2_with fail
            go_ret
            exact ⟨by rw [HV.out, e4]; rfl, HB1.out⟩
          · have e4 : decide (lo ≤ i.imm) = false := decide_eq_false hlo
            go_enter Tryd.func58, Tryd.ntmps58
            go_wp2_with fail
            refine (HFO.out _).mono ?_
            rintro e w2 ⟨rfl, rfl⟩
            go_wp2_with fail
            refine H0.out.mono ?_
            rintro e w2 ⟨rfl, rfl⟩
            go_wp2_with fail
            refine H1.out.mono ?_
            rintro e w2 ⟨rfl, rfl⟩
            go_wp2_with fail
            refine H2.out.mono ?_
            rintro e w2 ⟨rfl, rfl⟩
            go_wp2_with fail
            go_ret
            exact ⟨by rw [HV.out, e4]; rfl, HB1.out⟩
end
end Go.Proofs.YtgeagpplihecmaaDoor
