/- The walk of AuditLate. -/
import Derived.Test.YtehdgdlndlamjaaAuN
import Derived.BigQuiet
import Derived.Laws.MakeOwn
namespace Go.Proofs.Ytehdgdlndlamjaa
open Go.RowKit Go.Maps Go.Sort Go.Lib
open SL (Tk Cd)
open AU (Pr Rq Ev Mo)
def AU.hit (i : Nat) (e : Ev) : Bool := decide (e.kind = 6) && decide (e.task = (i : Int))
def AU.cnt (l : List Ev) (i : Nat) : Nat := l.countP (AU.hit i)
def AU.cntC (n : Nat) (l : List Ev) : Array Value := ((List.range n).map fun i => Value.int .i64 (AU.cnt l i : Int)).toArray
theorem AU.cntC_at {n : Nat} {l : List Ev} {i : Nat} (h : i < n) : (AU.cntC n l)[i]? = some (.int .i64 (AU.cnt l i : Int)) := by
  unfold AU.cntC
  simp [h]
theorem AU.cnt_snoc (l : List Ev) (e : Ev) (i : Nat) : AU.cnt (l ++ [e]) i = AU.cnt l i + (if AU.hit i e then 1 else 0) := by
  unfold AU.cnt
  rw [List.countP_append]
  congr 1
  cases h : AU.hit i e <;> simp [h]
theorem AU.cnt_le (l : List Ev) (i : Nat) : AU.cnt l i ≤ l.length := List.countP_le_length
theorem AU.cntC_zero (n : Nat) : AU.cntC n [] = madeCells #[.int .i64 0] n := by
  apply Array.ext_getElem?
  intro i
  unfold AU.cntC madeCells
  by_cases h : i < n
  · simp [h, AU.cnt, Nat.mod_one]
  · simp [h]
theorem AU.cntC_miss {n : Nat} {l : List Ev} {e : Ev} (h : ∀ i, i < n → AU.hit i e = false) : AU.cntC n (l ++ [e]) = AU.cntC n l := by
  unfold AU.cntC
  congr 1
  apply List.map_congr_left
  intro i hi
  rw [AU.cnt_snoc, h i (List.mem_range.1 hi)]
  simp
theorem AU.cntC_hit {n : Nat} {l : List Ev} {e : Ev} {k : Nat} (hk : e.task = (k : Int)) (h6 : e.kind = 6) : AU.cntC n (l ++ [e]) = (AU.cntC n l).setIfInBounds k (.int .i64 ((AU.cnt l k : Int) + 1)) := by
  apply Array.ext_getElem?
  intro i
  rw [Array.getElem?_setIfInBounds]
  by_cases hi : i < n
  · rw [AU.cntC_at hi, AU.cntC_at hi, AU.cnt_snoc]
    have hs : (AU.cntC n l).size = n := by simp [AU.cntC]
    by_cases hki : k = i
    · subst hki
      have : AU.hit k e = true := by unfold AU.hit; simp [hk, h6]
      rw [this, if_pos rfl]
      simp [hs, hi]
    · have : AU.hit i e = false := by unfold AU.hit; rw [decide_eq_false (show ¬ e.task = (i : Int) by omega)]; simp
      rw [this, if_neg hki]
      simp
  · have h1 : ∀ l, (AU.cntC n l)[i]? = none := fun l => by unfold AU.cntC; simp; omega
    rw [h1, h1]
    have hs : (AU.cntC n l).size = n := by simp [AU.cntC]
    split
    · rw [if_neg (by rw [hs]; omega)]
    · rfl
theorem infoIntL : (Try.prog.info? 3).map (fun i => (i.zero, i.size, i.bytes)) = some (some (.int .i64 0), 1, 8) := by kernel_rfl
theorem AU.cntC_list (n : Nat) (l : List Ev) : (AU.cntC n l).toList = ((List.range n).map fun i => ((AU.cnt l i : Nat) : Int)).map (Value.int .i64) := by
  unfold AU.cntC
  simp
section
set_option maxHeartbeats 2000000
set_option maxRecDepth 100000
theorem ints25_any (l : List Int) (A A' : Option Addr) (c c' : Nat) (w : World) (h : Row w A (l.map (Value.int .i64))) (h' : Row w A' (l.map (Value.int .i64))) (hl : l.length ≤ maxLen) :
    Calls Try.prog 11 #[.slice A l.length c, .slice A' l.length c'] w fun e w' => e = .returned (.bool true) ∧ ∃ q, w' = w.drewN q := by
  have hm : maxLen = 9223372036854775807 := rfl
  rw [hm] at hl
  have e0 : ((l.length : Int) != (l.length : Int)) = false := by simp
  have H := Lib.hid h
  have H' := Lib.hid h'
  clear h h' hm
  go_enter Try.func11, Try.ntmps11
  go_wp2_with fail
  go_loopw [5] (fun v wr => ∃ k q : Nat, k ≤ l.length ∧ v = .int .i64 (k : Int) ∧ wr = w.drewN q) (fun v _ => l.length - (intOf v).toNat)
  case atStart => exact ⟨0, 0, Nat.zero_le _, rfl, rfl⟩
  case round =>
    obtain ⟨k, q, hk, rfl, hwr⟩ := hrel
    have HW := Lib.hid hwr
    by_cases hlt : k < l.length
    · have q0 : (k : Int) < (l.length : Int) := by omega
      obtain ⟨x, hx⟩ : ∃ x, l[k]? = some x := ⟨_, List.getElem?_eq_getElem hlt⟩
      obtain ⟨b, o, rfl, _, cx⟩ := H.out.at (show (l.map (Value.int .i64))[k]? = some (.int .i64 x) by simp [hx])
      obtain ⟨b', o', rfl, _, cx'⟩ := H'.out.at (show (l.map (Value.int .i64))[k]? = some (.int .i64 x) by simp [hx])
      have d0 : wr.cell? ⟨b, o + k, none⟩ = some (.int .i64 x) := by rw [hwr]; exact cx
      have d1 : wr.cell? ⟨b', o' + k, none⟩ = some (.int .i64 x) := by rw [hwr]; exact cx'
      have e1 : (x != x) = false := by simp
      clear hwr cx cx' hx
      go_wp2_with fail
      go_quiet (fail)
      go_wp2_with fail
      exact ⟨⟨k + 1, q + nq, hlt, by simp, by rw [HW.out, World.drewN_drewN]⟩, by simp [intOf]; omega⟩
    · have q0 : ¬ (k : Int) < (l.length : Int) := by omega
      clear hwr
      go_wp2_with fail
      go_ret
      exact ⟨rfl, q, HW.out⟩
theorem alate_any (ts : List Tk) (A : Option Addr) (c : Nat) (l : List Ev) (tA : Option Addr) (tc : Nat) (w : World) (ht : Row w tA (evC l)) (hl : l.length ≤ 1000000) (hts : ts.length ≤ 1000000) :
    Calls Try.prog 12 #[.slice A ts.length c, .slice tA l.length tc] w fun e w' => ∃ g, e = .returned (.slice (some ⟨g, 0, none⟩) ts.length ts.length) ∧ Blk w' g 3 (AU.cntC ts.length l) ∧ w.heap.size ≤ g ∧ Below w.heap.size w w' := by
  obtain ⟨i1, ki, kz0, kz1, kz2⟩ := info_parts infoIntL
  have hmk : ∀ W : World, (Instr.makeSlice 37 (.int .i64 (ts.length : Int)) (.int .i64 (ts.length : Int))).run Try.prog W = .ok (.slice (some ⟨W.heap.size, 0, none⟩) ts.length ts.length) (W.alloc (.cells (AU.cntC ts.length []) 3)) := fun W => by
    have h := run_make (P := Try.prog) W 37 3 i1 _ Try.underlying37 ki kz0 .i64 .i64 (ts.length : Int) (ts.length : Int) (by omega) (by omega) (by rw [kz2]; omega) (by omega)
    rw [kz1, Int.toNat_natCast, Nat.mul_one] at h
    rw [AU.cntC_zero]
    exact h
  have HT := Lib.hid ht
  have HB0 := Lib.hid (Blk.new w 3 (AU.cntC ts.length []))
  have HL0 := Lib.hid ((Below.refl w.heap.size w).alloc (Nat.le_refl _) (.cells (AU.cntC ts.length []) 3))
  clear ki kz0 kz1 kz2 ht
  go_enter Try.func12, Try.ntmps12
  go_wp2_with fail
  go_loopw [13] (fun iv wr => ∃ k : Nat, k ≤ l.length ∧ iv = .int .i64 (k : Int) ∧ Blk wr w.heap.size 3 (AU.cntC ts.length (l.take k)) ∧ Below w.heap.size w wr) (fun iv _ => l.length - (intOf iv).toNat)
  case atStart => exact ⟨0, Nat.zero_le _, rfl, HB0.out, HL0.out⟩
  case round =>
    obtain ⟨k, hk, rfl, hb, hlw⟩ := hrel
    have HB := Lib.hid hb
    have HL := Lib.hid hlw
    clear HB0 HL0
    by_cases hlt : k < l.length
    · have q0 : (k : Int) < (l.length : Int) := by omega
      obtain ⟨e, he⟩ : ∃ e, l[k]? = some e := ⟨_, List.getElem?_eq_getElem hlt⟩
      obtain ⟨b, o, rfl, _, x0, x1, x2, x3, x4, x5, x6, x7⟩ := ev_at (HT.out.below HL.out) he
      have HTK := Lib.hid (show l.take (k + 1) = l.take k ++ [e] from by
        obtain ⟨h1, h2⟩ := List.getElem?_eq_some_iff.1 he
        rw [List.take_succ_eq_append_getElem h1, h2])
      have hcl := fun i => AU.cnt_le (l.take k) i
      obtain ⟨y0, y1, y2, y3, y4, y5, y6, y7⟩ := (Blk.new wr 39 #[.int .i64 e.slot, .int .i64 e.core, .int .i64 e.task, .int .i64 e.job, .int .u8 (e.kind : Int), .int .i64 e.value, .int .i64 e.cycle, .int .i64 e.port]).eight
      have HBA := Lib.hid (HB.out.alloc (.cells #[.int .i64 e.slot, .int .i64 e.core, .int .i64 e.task, .int .i64 e.job, .int .u8 (e.kind : Int), .int .i64 e.value, .int .i64 e.cycle, .int .i64 e.port] 39))
      have HLA := Lib.hid (HL.out.alloc HL.out.size (.cells #[.int .i64 e.slot, .int .i64 e.core, .int .i64 e.task, .int .i64 e.job, .int .u8 (e.kind : Int), .int .i64 e.value, .int .i64 e.cycle, .int .i64 e.port] 39))
      clear hb hlw he
      by_cases h6 : e.kind = 6
      · have f6 : ((e.kind : Int) == 6) = true := by simp [h6]
        by_cases h0 : 0 ≤ e.task
        · have d0 : decide (0 ≤ e.task) = true := decide_eq_true h0
          by_cases hn : e.task < (ts.length : Int)
          · have dn : decide (e.task < (ts.length : Int)) = true := decide_eq_true hn
            have ht : e.task = ((e.task.toNat : Nat) : Int) := by omega
            have htn : e.task.toNat < ts.length := by omega
            have HTT := Lib.hid ht
            have HCC := Lib.hid (show AU.cntC ts.length (l.take (k + 1)) = (AU.cntC ts.length (l.take k)).setIfInBounds e.task.toNat (.int .i64 ((AU.cnt (l.take k) e.task.toNat : Int) + 1)) from by rw [HTK.out]; exact AU.cntC_hit ht h6)
            have c0 := (HBA.out.cell e.task.toNat).trans (AU.cntC_at htn)
            have g0 := HBA.out.frozen e.task.toNat
            have hct := hcl e.task.toNat
            rw [List.length_take] at hct
            have z1 : IntKind.i64.wrap ((AU.cnt (l.take k) e.task.toNat : Int) + 1) = (AU.cnt (l.take k) e.task.toNat : Int) + 1 := IntWalk.i64_in _ (by omega)
            generalize AU.cnt (l.take k) e.task.toNat = cv at *
            have HBS := Lib.hid ((HB.out.set_ e.task.toNat (.int .i64 ((cv : Int) + 1))).alloc (.cells #[.int .i64 e.slot, .int .i64 e.core, .int .i64 e.task, .int .i64 e.job, .int .u8 (e.kind : Int), .int .i64 e.value, .int .i64 e.cycle, .int .i64 e.port] 39))
            have HLS := Lib.hid ((HL.out.setCell (p := ⟨w.heap.size, e.task.toNat, none⟩) (Nat.le_refl _) (.int .i64 ((cv : Int) + 1))).alloc (by simpa [World.setCell] using HL.out.size) (.cells #[.int .i64 e.slot, .int .i64 e.core, .int .i64 e.task, .int .i64 e.job, .int .u8 (e.kind : Int), .int .i64 e.value, .int .i64 e.cycle, .int .i64 e.port] 39))
            have hlg : w.heap.size < wr.heap.size := HB.out.lt
            clear h6 hcl HB HL ht
            go_wp2_with fail
            refine ⟨⟨k + 1, hlt, by simp, ?_, HLS.out⟩, by simp [intOf]; omega⟩
            rw [HCC.out]
            exact HBS.out
          · have dn : decide (e.task < (ts.length : Int)) = false := decide_eq_false hn
            have HCC := Lib.hid (show AU.cntC ts.length (l.take (k + 1)) = AU.cntC ts.length (l.take k) from by rw [HTK.out]; exact AU.cntC_miss (fun i hi => by unfold AU.hit; rw [decide_eq_false (show ¬ e.task = (i : Int) by omega)]; simp))
            clear h6 h0 hn hcl HB HL
            go_wp2_with fail
            refine ⟨⟨k + 1, hlt, by simp, ?_, HLA.out⟩, by simp [intOf]; omega⟩
            rw [HCC.out]
            exact HBA.out
        · have d0 : decide (0 ≤ e.task) = false := decide_eq_false h0
          have HCC := Lib.hid (show AU.cntC ts.length (l.take (k + 1)) = AU.cntC ts.length (l.take k) from by rw [HTK.out]; exact AU.cntC_miss (fun i hi => by unfold AU.hit; rw [decide_eq_false (show ¬ e.task = (i : Int) by omega)]; simp))
          clear h6 h0 hcl HB HL
          go_wp2_with fail
          refine ⟨⟨k + 1, hlt, by simp, ?_, HLA.out⟩, by simp [intOf]; omega⟩
          rw [HCC.out]
          exact HBA.out
      · have f6 : ((e.kind : Int) == 6) = false := beq_false_of_ne (by omega)
        have HCC := Lib.hid (show AU.cntC ts.length (l.take (k + 1)) = AU.cntC ts.length (l.take k) from by rw [HTK.out]; exact AU.cntC_miss (fun i hi => by unfold AU.hit; rw [decide_eq_false h6]; simp))
        clear h6 hcl HB HL
        go_wp2_with fail
        refine ⟨⟨k + 1, hlt, by simp, ?_, HLA.out⟩, by simp [intOf]; omega⟩
        rw [HCC.out]
        exact HBA.out
    · have q0 : ¬ (k : Int) < (l.length : Int) := by omega
      have hb2 := HB.out
      rw [List.take_of_length_le (show l.length ≤ k by omega)] at hb2
      have HB2 := Lib.hid hb2
      clear hb hb2 hlw HB
      go_wp2_with fail
      go_ret
      exact ⟨_, rfl, HB2.out, Nat.le_refl _, HL.out⟩
/-- The walk of AuditLate. -/
theorem late_walk (ts : List Tk) (A : Option Addr) (c : Nat) (l : List Ev) (tA : Option Addr) (tc : Nat) (w : World) (_hr : Row w A (tkRow ts)) (ht : Row w tA (evC l)) :
    Calls Try.prog 4 #[.slice A ts.length c, .slice tA l.length tc] w fun e w' => e = .returned (.bool true) ∧ Below w.heap.size w w' := by
  have hnot : ∀ (x : Bool) (w : World), (Op.unary .not (.bool x)).run Try.prog w = .ok (.bool (!x)) w := fun _ _ => rfl
  have HAW := Lib.hid (aawake_any w)
  have HGR := Lib.hid (fun W => agreat_any ts.length c l.length tc A tA W)
  have HT0 := Lib.hid ht
  clear ht
  go_enter Try.func4, Try.ntmps4
  go_wp2_with fail
  refine HAW.out.mono ?_
  rintro e w1 ⟨rfl, hb1⟩
  have HB1 := Lib.hid hb1
  clear hb1 HAW
  go_wp2_with fail
  refine (HGR.out _).mono ?_
  rintro e w2 ⟨rfl, rfl⟩
  by_cases h1 : 8 < ts.length
  · have d1 : (decide (8 < ts.length) || decide (200 < l.length)) = true := by simp [h1]
    rw [d1]
    clear HGR d1
    go_wp2_with fail
    go_ret
    exact ⟨rfl, HB1.out⟩
  · by_cases h2 : 200 < l.length
    · have d1 : (decide (8 < ts.length) || decide (200 < l.length)) = true := by simp [h2]
      rw [d1]
      clear HGR d1
      go_wp2_with fail
      go_ret
      exact ⟨rfl, HB1.out⟩
    · have d1 : (decide (8 < ts.length) || decide (200 < l.length)) = false := by simp; omega
      rw [d1]
      obtain ⟨i1, ki, kz0, kz1, kz2⟩ := info_parts infoIntL
      have hmk : ∀ W : World, (Instr.makeSlice 37 (.int .i64 (ts.length : Int)) (.int .i64 (ts.length : Int))).run Try.prog W = .ok (.slice (some ⟨W.heap.size, 0, none⟩) ts.length ts.length) (W.alloc (.cells (AU.cntC ts.length []) 3)) := fun W => by
        have h := run_make (P := Try.prog) W 37 3 i1 _ Try.underlying37 ki kz0 .i64 .i64 (ts.length : Int) (ts.length : Int) (by omega) (by omega) (by rw [kz2]; omega) (by omega)
        rw [kz1, Int.toNat_natCast, Nat.mul_one] at h
        rw [AU.cntC_zero]
        exact h
      have HT := Lib.hid (HT0.out.below HB1.out)
      generalize w2 = W at *
      have HB0 := Lib.hid (Blk.new W 3 (AU.cntC ts.length []))
      have HL0 := Lib.hid ((Below.refl W.heap.size W).alloc (Nat.le_refl _) (.cells (AU.cntC ts.length []) 3))
      clear ki kz0 kz1 kz2 HGR d1
      go_wp2_with fail
      go_loopw [18] (fun iv wr => ∃ k : Nat, k ≤ l.length ∧ iv = .int .i64 (k : Int) ∧ Blk wr W.heap.size 3 (AU.cntC ts.length (l.take k)) ∧ Below W.heap.size W wr) (fun iv _ => l.length - (intOf iv).toNat)
      case atStart => exact ⟨0, Nat.zero_le _, rfl, HB0.out, HL0.out⟩
      case round =>
        obtain ⟨k, hk, rfl, hb, hlw⟩ := hrel
        have HB := Lib.hid hb
        have HL := Lib.hid hlw
        clear HB0 HL0
        by_cases hlt : k < l.length
        · have q0 : (k : Int) < (l.length : Int) := by omega
          obtain ⟨e, he⟩ : ∃ e, l[k]? = some e := ⟨_, List.getElem?_eq_getElem hlt⟩
          obtain ⟨b, o, rfl, _, x0, x1, x2, x3, x4, x5, x6, x7⟩ := ev_at (HT.out.below HL.out) he
          have HTK := Lib.hid (show l.take (k + 1) = l.take k ++ [e] from by
            obtain ⟨h1, h2⟩ := List.getElem?_eq_some_iff.1 he
            rw [List.take_succ_eq_append_getElem h1, h2])
          have hcl := fun i => AU.cnt_le (l.take k) i
          obtain ⟨y0, y1, y2, y3, y4, y5, y6, y7⟩ := (Blk.new wr 39 #[.int .i64 e.slot, .int .i64 e.core, .int .i64 e.task, .int .i64 e.job, .int .u8 (e.kind : Int), .int .i64 e.value, .int .i64 e.cycle, .int .i64 e.port]).eight
          have HBA := Lib.hid (HB.out.alloc (.cells #[.int .i64 e.slot, .int .i64 e.core, .int .i64 e.task, .int .i64 e.job, .int .u8 (e.kind : Int), .int .i64 e.value, .int .i64 e.cycle, .int .i64 e.port] 39))
          have HLA := Lib.hid (HL.out.alloc HL.out.size (.cells #[.int .i64 e.slot, .int .i64 e.core, .int .i64 e.task, .int .i64 e.job, .int .u8 (e.kind : Int), .int .i64 e.value, .int .i64 e.cycle, .int .i64 e.port] 39))
          clear hb hlw he
          by_cases h6 : e.kind = 6
          · have f6 : ((e.kind : Int) == 6) = true := by simp [h6]
            by_cases h0 : 0 ≤ e.task
            · have d0 : decide (0 ≤ e.task) = true := decide_eq_true h0
              by_cases hn : e.task < (ts.length : Int)
              · have dn : decide (e.task < (ts.length : Int)) = true := decide_eq_true hn
                have ht : e.task = ((e.task.toNat : Nat) : Int) := by omega
                have htn : e.task.toNat < ts.length := by omega
                have HTT := Lib.hid ht
                have HCC := Lib.hid (show AU.cntC ts.length (l.take (k + 1)) = (AU.cntC ts.length (l.take k)).setIfInBounds e.task.toNat (.int .i64 ((AU.cnt (l.take k) e.task.toNat : Int) + 1)) from by rw [HTK.out]; exact AU.cntC_hit ht h6)
                have c0 := (HBA.out.cell e.task.toNat).trans (AU.cntC_at htn)
                have g0 := HBA.out.frozen e.task.toNat
                have hct := hcl e.task.toNat
                rw [List.length_take] at hct
                have z1 : IntKind.i64.wrap ((AU.cnt (l.take k) e.task.toNat : Int) + 1) = (AU.cnt (l.take k) e.task.toNat : Int) + 1 := IntWalk.i64_in _ (by omega)
                generalize AU.cnt (l.take k) e.task.toNat = cv at *
                have HBS := Lib.hid ((HB.out.set_ e.task.toNat (.int .i64 ((cv : Int) + 1))).alloc (.cells #[.int .i64 e.slot, .int .i64 e.core, .int .i64 e.task, .int .i64 e.job, .int .u8 (e.kind : Int), .int .i64 e.value, .int .i64 e.cycle, .int .i64 e.port] 39))
                have HLS := Lib.hid ((HL.out.setCell (p := ⟨W.heap.size, e.task.toNat, none⟩) (Nat.le_refl _) (.int .i64 ((cv : Int) + 1))).alloc (by simpa [World.setCell] using HL.out.size) (.cells #[.int .i64 e.slot, .int .i64 e.core, .int .i64 e.task, .int .i64 e.job, .int .u8 (e.kind : Int), .int .i64 e.value, .int .i64 e.cycle, .int .i64 e.port] 39))
                have hlg : W.heap.size < wr.heap.size := HB.out.lt
                clear h6 hcl HB HL ht
                go_wp2_with fail
                refine ⟨⟨k + 1, hlt, by simp, ?_, HLS.out⟩, by simp [intOf]; omega⟩
                rw [HCC.out]
                exact HBS.out
              · have dn : decide (e.task < (ts.length : Int)) = false := decide_eq_false hn
                have HCC := Lib.hid (show AU.cntC ts.length (l.take (k + 1)) = AU.cntC ts.length (l.take k) from by rw [HTK.out]; exact AU.cntC_miss (fun i hi => by unfold AU.hit; rw [decide_eq_false (show ¬ e.task = (i : Int) by omega)]; simp))
                clear h6 h0 hn hcl HB HL
                go_wp2_with fail
                refine ⟨⟨k + 1, hlt, by simp, ?_, HLA.out⟩, by simp [intOf]; omega⟩
                rw [HCC.out]
                exact HBA.out
            · have d0 : decide (0 ≤ e.task) = false := decide_eq_false h0
              have HCC := Lib.hid (show AU.cntC ts.length (l.take (k + 1)) = AU.cntC ts.length (l.take k) from by rw [HTK.out]; exact AU.cntC_miss (fun i hi => by unfold AU.hit; rw [decide_eq_false (show ¬ e.task = (i : Int) by omega)]; simp))
              clear h6 h0 hcl HB HL
              go_wp2_with fail
              refine ⟨⟨k + 1, hlt, by simp, ?_, HLA.out⟩, by simp [intOf]; omega⟩
              rw [HCC.out]
              exact HBA.out
          · have f6 : ((e.kind : Int) == 6) = false := beq_false_of_ne (by omega)
            have HCC := Lib.hid (show AU.cntC ts.length (l.take (k + 1)) = AU.cntC ts.length (l.take k) from by rw [HTK.out]; exact AU.cntC_miss (fun i hi => by unfold AU.hit; rw [decide_eq_false h6]; simp))
            clear h6 hcl HB HL
            go_wp2_with fail
            refine ⟨⟨k + 1, hlt, by simp, ?_, HLA.out⟩, by simp [intOf]; omega⟩
            rw [HCC.out]
            exact HBA.out
        · have q0 : ¬ (k : Int) < (l.length : Int) := by omega
          have hb2 := HB.out
          rw [List.take_of_length_le (show l.length ≤ k by omega)] at hb2
          have HB2 := Lib.hid hb2
          clear hb hb2 hlw HB
          have HLT := Lib.hid (alate_any ts A c l tA tc wr (HT.out.below HL.out) (by omega) (by omega))
          clear hmk
          go_wp2_with fail
          refine HLT.out.mono ?_
          rintro e w5 ⟨g, rfl, h5, _, h6⟩
          have hr1 : Row w5 (some ⟨g, 0, none⟩) (((List.range ts.length).map fun i => ((AU.cnt l i : Nat) : Int)).map (Value.int .i64)) := by
            rw [← AU.cntC_list]
            exact row_block h5
          have hr2 : Row w5 (some ⟨W.heap.size, 0, none⟩) (((List.range ts.length).map fun i => ((AU.cnt l i : Nat) : Int)).map (Value.int .i64)) := by
            rw [← AU.cntC_list]
            exact row_block (HB2.out.below h6)
          have hI := ints25_any _ _ _ ts.length ts.length w5 hr1 hr2 (by simp; unfold maxLen; omega)
          rw [show ((List.range ts.length).map fun i => ((AU.cnt l i : Nat) : Int)).length = ts.length from by simp] at hI
          have HI := Lib.hid hI
          have HL5 := Lib.hid (HB1.out.trans ((HL.out.trans (h6.mono HL.out.size)).mono HB1.out.size))
          clear hI hr1 hr2 h5 h6 HLT
          go_wp2_with fail
          refine HI.out.mono ?_
          rintro e w6 ⟨rfl, q, rfl⟩
          have HL6 := Lib.hid (below_drewN HL5.out q)
          go_wp2_with fail
          go_ret
          exact ⟨rfl, HL6.out⟩
end
end Go.Proofs.Ytehdgdlndlamjaa
