/- Whether a trace has huge numbers; whether two traces are equal. -/
import Derived.Test.YtpmbhdheeaejgaaGreatDoorAuM
import Derived.Test.YtpmbhdheeaejgaaGreatDoorPlainTr2
import Derived.BigQuiet
namespace Go.Proofs.YtpmbhdheeaejgaaGreatDoor
open Go.RowKit Go.Maps Go.Sort Go.Lib
open AU (Ev)
def TR.b60 (n : Int) : Prop := -1152921504606846976 ≤ n ∧ n ≤ 1152921504606846976
def TR.nums7 (e : Ev) : List Int := [e.slot, e.cycle, e.task, e.job, e.core, e.value, e.port]
def TR.ok60 (e : Ev) : Prop := ∀ n ∈ TR.nums7 e, TR.b60 n
theorem TR.ok60.okI {e : Ev} (h : TR.ok60 e) : TR.okI e := by
  have hb : ∀ n, TR.b60 n → TR.i64 n := fun n hn => ⟨by have := hn.1; omega, by have := hn.2; omega⟩
  unfold TR.ok60 TR.nums7 at h
  exact ⟨hb _ (h _ (by simp)), hb _ (h _ (by simp)), hb _ (h _ (by simp)), hb _ (h _ (by simp)), hb _ (h _ (by simp)), hb _ (h _ (by simp)), hb _ (h _ (by simp))⟩
def nums7C (e : Ev) : Array Value := #[.int .i64 e.slot, .int .i64 e.cycle, .int .i64 e.task, .int .i64 e.job, .int .i64 e.core, .int .i64 e.value, .int .i64 e.port]
theorem nums7C_at {e : Ev} {j : Nat} (h : j < 7) : ∃ n, (TR.nums7 e)[j]? = some n ∧ (nums7C e)[j]? = some (.int .i64 n) := by
  rcases (show j = 0 ∨ j = 1 ∨ j = 2 ∨ j = 3 ∨ j = 4 ∨ j = 5 ∨ j = 6 by omega) with rfl | rfl | rfl | rfl | rfl | rfl | rfl <;> exact ⟨_, rfl, rfl⟩
def HgRel (w : World) (e : Ev) (n2 : Nat) (v : Value) (wx : World) : Prop := ∃ j : Nat, j ≤ 7 ∧ v = .int .i64 (j : Int) ∧ (∀ n ∈ (TR.nums7 e).take j, TR.b60 n) ∧ Blk wx n2 3 (nums7C e) ∧ Below w.heap.size w wx
theorem take_snoc7 {α : Type} {l : List α} {j : Nat} {x : α} (h : l[j]? = some x) : l.take (j + 1) = l.take j ++ [x] := by
  obtain ⟨hj, rfl⟩ := List.getElem?_eq_some_iff.1 h
  rw [List.take_succ_eq_append_getElem hj]
section
set_option maxHeartbeats 4000000
set_option maxRecDepth 100000
theorem huge_any (l : List Ev) (A : Option Addr) (c : Nat) (w : World) (hl : l.length ≤ 1000000) (hr : Row w A (evC l)) :
    Calls Tryz.prog 6 #[.slice A l.length c] w fun e w' => ∃ b, e = .returned (.bool b) ∧ (b = false → ∀ e ∈ l, TR.ok60 e) ∧ Below w.heap.size w w' := by
  have HR := Lib.hid hr
  clear hr
  go_enter Tryz.func6, Tryz.ntmps6
  go_wp2_with fail
  go_loopw [9] (fun v wr => ∃ k : Nat, k ≤ l.length ∧ v = .int .i64 (k : Int) ∧ (∀ e ∈ l.take k, TR.ok60 e) ∧ Below w.heap.size w wr) (fun v _ => l.length - (intOf v).toNat)
  case atStart => exact ⟨0, Nat.zero_le _, rfl, by simp, Below.refl _ _⟩
  case round =>
    obtain ⟨k, hk, rfl, hall, hbw⟩ := hrel
    have HB := Lib.hid hbw
    have HALL := Lib.hid hall
    clear hall hbw
    by_cases hlt : k < l.length
    · have q0 : (k : Int) < (l.length : Int) := by omega
      obtain ⟨e, he⟩ : ∃ e, l[k]? = some e := ⟨_, List.getElem?_eq_getElem hlt⟩
      obtain ⟨rb, ro, rfl, _, x0, x1, x2, x3, x4, x5, x6, x7⟩ := ev_at (HR.out.below HB.out) he
      have HTK := Lib.hid (take_snoc7 he)
      have HB1 := Lib.hid (HB.out.alloc HB.out.size (.cells #[.int .i64 e.slot, .int .i64 e.core, .int .i64 e.task, .int .i64 e.job, .int .u8 (e.kind : Int), .int .i64 e.value, .int .i64 e.cycle, .int .i64 e.port] 26))
      clear he
      go_upto_region 4 with fail
      generalize hw5 : wr.alloc (.cells #[.int .i64 e.slot, .int .i64 e.core, .int .i64 e.task, .int .i64 e.job, .int .u8 (e.kind : Int), .int .i64 e.value, .int .i64 e.cycle, .int .i64 e.port] _) = w5
      rw [show wr.alloc (.cells #[.int .i64 e.slot, .int .i64 e.core, .int .i64 e.task, .int .i64 e.job, .int .u8 (e.kind : Int), .int .i64 e.value, .int .i64 e.cycle, .int .i64 e.port] 26) = w5 from hw5] at HB1
      have hk5 : Blk w5 wr.heap.size 26 #[.int .i64 e.slot, .int .i64 e.core, .int .i64 e.task, .int .i64 e.job, .int .u8 (e.kind : Int), .int .i64 e.value, .int .i64 e.cycle, .int .i64 e.port] := by rw [← hw5]; exact Blk.new wr _ _
      clear hw5 x0 x1 x2 x3 x4 x5 x6 x7
      obtain ⟨x0, x1, x2, x3, x4, x5, x6, x7⟩ := hk5.eight
      clear hk5
      generalize wr.heap.size = n1 at *
      have HST := Lib.hid (show HgRel w e w5.heap.size (.int .i64 0) (w5.alloc (.cells (nums7C e) 3)) from ⟨0, by omega, rfl, by simp, Blk.new w5 _ _, HB1.out.alloc HB1.out.size _⟩)
      rw [show nums7C e = #[.int .i64 e.slot, .int .i64 e.cycle, .int .i64 e.task, .int .i64 e.job, .int .i64 e.core, .int .i64 e.value, .int .i64 e.port] from rfl] at HST
      go_wp2_with fail
      generalize hw7 : w5.alloc (.cells #[.int .i64 e.slot, .int .i64 e.cycle, .int .i64 e.task, .int .i64 e.job, .int .i64 e.core, .int .i64 e.value, .int .i64 e.port] _) = w7
      rw [show w5.alloc (.cells #[.int .i64 e.slot, .int .i64 e.cycle, .int .i64 e.task, .int .i64 e.job, .int .i64 e.core, .int .i64 e.value, .int .i64 e.port] 3) = w7 from hw7] at HST
      clear hw7 x0 x1 x2 x3 x4 x5 x6 x7
      generalize w5.heap.size = n2 at *
      go_loopw [29] (fun v wx => HgRel w e n2 v wx) (fun v _ => 7 - (intOf v).toNat)
      case atStart => exact HST.out
      case round =>
        obtain ⟨j, hj, rfl, hjs, hk2, hbx⟩ := hrel
        have HJ := Lib.hid hjs
        have HK2 := Lib.hid hk2
        have HBX := Lib.hid hbx
        clear hjs hk2 hbx HST
        by_cases hj7 : j < 7
        · obtain ⟨nj, hn1, hn2⟩ := nums7C_at (e := e) hj7
          have cj := (HK2.out.cell j).trans hn2
          have HT7 := Lib.hid (take_snoc7 hn1)
          have q1 : (j : Int) < 7 := by omega
          clear hn1 hn2
          by_cases h1 : (1152921504606846976 : Int) < nj
          · have d1 : decide ((1152921504606846976 : Int) < nj) = true := decide_eq_true h1
            clear h1
            go_wp2_with fail
            go_ret
            exact ⟨true, rfl, (fun h => by cases h), HBX.out⟩
          · have d1 : decide ((1152921504606846976 : Int) < nj) = false := decide_eq_false h1
            by_cases h2 : nj < -1152921504606846976
            · have d2 : decide (nj < -1152921504606846976) = true := decide_eq_true h2
              clear h1 h2
              go_wp2_with fail
              go_ret
              exact ⟨true, rfl, (fun h => by cases h), HBX.out⟩
            · have d2 : decide (nj < -1152921504606846976) = false := decide_eq_false h2
              have HN := Lib.hid (show TR.b60 nj from ⟨by omega, by omega⟩)
              clear h1 h2
              go_wp2_with fail
              exact ⟨⟨j + 1, by omega, by simp, fun n hn => by
                rw [HT7.out, List.mem_append, List.mem_singleton] at hn
                rcases hn with hn | rfl
                · exact HJ.out n hn
                · exact HN.out, HK2.out, HBX.out⟩, by simp [intOf]; omega⟩
        · have q1 : ¬ (j : Int) < 7 := by omega
          have hall7 : TR.ok60 e := fun n hn => HJ.out n (by rw [List.take_of_length_le (by simp [TR.nums7]; omega)]; exact hn)
          have HA7 := Lib.hid hall7
          clear hall7
          go_wp2_with fail
          exact ⟨⟨k + 1, by omega, by simp, fun x hx => by
            rw [HTK.out, List.mem_append, List.mem_singleton] at hx
            rcases hx with hx | rfl
            · exact HALL.out x hx
            · exact HA7.out, HBX.out⟩, by simp [intOf]; omega⟩
    · have q0 : ¬ (k : Int) < (l.length : Int) := by omega
      have HE := Lib.hid (show l.take k = l from List.take_of_length_le (by omega))
      go_wp2_with fail
      go_ret
      exact Or.inl ⟨rfl, (fun e he => HALL.out e (by rw [HE.out]; exact he)), HB.out⟩
theorem sameT_any (l : List Ev) (A A' : Option Addr) (c c' : Nat) (w : World) (h : Row w A (evC l)) (h' : Row w A' (evC l)) (hl : l.length ≤ 1000000) :
    Calls Tryz.prog 9 #[.slice A l.length c, .slice A' l.length c'] w fun e w' => e = .returned (.bool true) ∧ Below w.heap.size w w' := by
  have e0 : ((l.length : Int) != (l.length : Int)) = false := by simp
  have H := Lib.hid h
  have H' := Lib.hid h'
  clear h h'
  go_enter Tryz.func9, Tryz.ntmps9
  go_wp2_with fail
  go_loopw [13] (fun v wr => ∃ k q : Nat, k ≤ l.length ∧ v = .int .i64 (k : Int) ∧ wr = w.drewN q) (fun v _ => l.length - (intOf v).toNat)
  case atStart => exact ⟨0, 0, Nat.zero_le _, rfl, rfl⟩
  case round =>
    obtain ⟨k, q, hk, rfl, hwr⟩ := hrel
    have HW := Lib.hid hwr
    by_cases hlt : k < l.length
    · have q0 : (k : Int) < (l.length : Int) := by omega
      obtain ⟨e, he⟩ : ∃ e, l[k]? = some e := ⟨_, List.getElem?_eq_getElem hlt⟩
      have hb : Below w.heap.size w wr := by rw [hwr]; exact below_drewN (Below.refl _ _) q
      obtain ⟨b, o, rfl, _, x0, x1, x2, x3, x4, x5, x6, x7⟩ := ev_at (H.out.below hb) he
      obtain ⟨b', o', rfl, _, y0, y1, y2, y3, y4, y5, y6, y7⟩ := ev_at (H'.out.below hb) he
      clear hwr he hb
      go_wp2_with fail
      go_quiet (fail)
      go_wp2_with fail
      exact ⟨⟨k + 1, q + nq, hlt, by simp, by rw [HW.out, World.drewN_drewN]⟩, by simp [intOf]; omega⟩
    · have q0 : ¬ (k : Int) < (l.length : Int) := by omega
      clear hwr
      go_wp2_with fail
      go_ret
      exact ⟨rfl, by rw [HW.out]; exact below_drewN (Below.refl _ _) q⟩
end
end Go.Proofs.YtpmbhdheeaejgaaGreatDoor
