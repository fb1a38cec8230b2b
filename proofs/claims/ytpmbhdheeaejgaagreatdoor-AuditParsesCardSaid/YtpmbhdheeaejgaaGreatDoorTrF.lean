/- The text of a trace, written: kernel.Format. -/
import Derived.Test.YtpmbhdheeaejgaaGreatDoorTrB
import Derived.Test.YtpmbhdheeaejgaaGreatDoorAuM
import Derived.Lib.ItoaLen
import Derived.Deep.RegionHeld3
import Derived.Deep.CutRange
namespace Go.Proofs.YtpmbhdheeaejgaaGreatDoor
open Go.RowKit Go.Maps Go.Sort Go.Lib
open AU (Ev)
theorem TR.lineE_len {e : Ev} (h : TR.okI e) : (TR.lineE e).length ≤ 162 := by
  have h0 := Lib.itoa_length_le _ h.slot.1 h.slot.2
  have h1 := Lib.itoa_length_le _ h.cycle.1 h.cycle.2
  have h2 := Lib.itoa_length_le _ h.task.1 h.task.2
  have h3 := Lib.itoa_length_le _ h.job.1 h.job.2
  have h4 := Lib.itoa_length_le _ h.core.1 h.core.2
  have h5 := Lib.itoa_length_le _ h.value.1 h.value.2
  have h6 := Lib.itoa_length_le _ h.port.1 h.port.2
  have h7 := TR.word_len e.kind
  unfold TR.lineE TR.flds TR.joinC TR.joinC TR.joinC TR.joinC TR.joinC TR.joinC TR.joinC TR.joinC
  simp only [List.length_append, List.length_cons]
  omega
theorem TR.fmt_len : ∀ (l : List Ev), (∀ e ∈ l, TR.okI e) → (TR.fmt l).length ≤ 163 * l.length
  | [], _ => by simp [TR.fmt]
  | e :: l, h => by
    have h1 := TR.lineE_len (h e (by simp))
    have h2 := TR.fmt_len l (fun x hx => h x (by simp [hx]))
    rw [TR.fmt_cons, List.length_append, List.length_cons, List.length_cons]
    omega
theorem TR.fmt_take {l : List Ev} {k : Nat} {e : Ev} (h : l[k]? = some e) : TR.fmt (l.take (k + 1)) = TR.fmt (l.take k) ++ (TR.lineE e ++ [10]) := by
  obtain ⟨hk, rfl⟩ := List.getElem?_eq_some_iff.1 h
  rw [List.take_succ_eq_append_getElem hk, TR.fmt_snoc]
/-- The beginning of a line, and its numbers behind it. -/
def TR.head (e : Ev) : TR.Bytes := Lib.itoa e.slot ++ 32 :: (Lib.itoa e.cycle ++ 32 :: TR.word e.kind)
def TR.nums (e : Ev) : List Int := [e.task, e.job, e.core, e.value, e.port]
def TR.tailP (e : Ev) (j : Nat) : TR.Bytes := ((TR.nums e).take j).flatMap fun n => 32 :: Lib.itoa n
theorem TR.line_eq (e : Ev) : TR.lineE e = TR.head e ++ TR.tailP e 5 := by
  unfold TR.lineE TR.flds TR.head TR.tailP TR.nums
  simp [TR.joinC]
theorem TR.tail_step {e : Ev} {j : Nat} {n : Int} (h : (TR.nums e)[j]? = some n) : TR.tailP e (j + 1) = TR.tailP e j ++ 32 :: Lib.itoa n := by
  obtain ⟨hk, rfl⟩ := List.getElem?_eq_some_iff.1 h
  unfold TR.tailP
  rw [List.take_succ_eq_append_getElem hk, List.flatMap_append, List.flatMap_singleton]
theorem TR.tail_le (e : Ev) (h : TR.okI e) (j : Nat) : (TR.head e ++ TR.tailP e j).length ≤ 162 := by
  have h1 := TR.lineE_len h
  rw [TR.line_eq] at h1
  have h2 : (TR.tailP e j).length ≤ (TR.tailP e 5).length := by
    unfold TR.tailP
    have h3 : (TR.nums e).take 5 = TR.nums e := rfl
    rw [h3]
    conv => rhs; rw [← List.take_append_drop j (TR.nums e)]
    rw [List.flatMap_append, List.length_append]
    omega
  rw [List.length_append] at h1 ⊢
  omega
theorem TR.nums_ok {e : Ev} (h : TR.okI e) : ∀ n ∈ TR.nums e, TR.i64 n := by
  intro n hn
  unfold TR.nums at hn
  simp only [List.mem_cons, List.not_mem_nil, or_false] at hn
  rcases hn with rfl | rfl | rfl | rfl | rfl
  · exact h.task
  · exact h.job
  · exact h.core
  · exact h.value
  · exact h.port
theorem below_drew1t {b : Nat} {a w : World} (h : Below b a w) : Below b a w.drew := below_drewN h 1
theorem below_undrewt {w w' : World} (h : Below w.drew.heap.size w.drew w') : Below w.heap.size w w' := ⟨h.os, h.tape, h.output, h.size, h.block⟩
theorem cells3_drew {w : World} {g : Nat} {a b c : Option Value} (k : w.cell? ⟨g, 0, none⟩ = a ∧ w.cell? ⟨g, 6, none⟩ = b ∧ w.cell? ⟨g, 4, none⟩ = c) : w.drew.cell? ⟨g, 0, none⟩ = a ∧ w.drew.cell? ⟨g, 6, none⟩ = b ∧ w.drew.cell? ⟨g, 4, none⟩ = c := k
theorem cells3_ev {w : World} {g : Nat} {e : Ev} (h : Blk w g 26 (evV e)) : w.cell? ⟨g, 0, none⟩ = some (.int .i64 e.slot) ∧ w.cell? ⟨g, 6, none⟩ = some (.int .i64 e.cycle) ∧ w.cell? ⟨g, 4, none⟩ = some (.int .u8 (e.kind : Int)) := ⟨h.cell 0, h.cell 6, h.cell 4⟩
theorem head_str (e : Ev) : ((⟨(Lib.itoa e.slot).toArray⟩ : ByteArray) ++ ⟨#[32]⟩ ++ ⟨(Lib.itoa e.cycle).toArray⟩ ++ ⟨#[32]⟩ ++ ⟨(TR.word e.kind).toArray⟩) = ⟨(TR.head e).toArray⟩ := by
  apply ByteArray.ext
  simp [TR.head]
theorem num_str (n : Int) : ((⟨#[32]⟩ : ByteArray) ++ ⟨(Lib.itoa n).toArray⟩) = ⟨(32 :: Lib.itoa n).toArray⟩ := by
  apply ByteArray.ext
  simp
def numsC (e : Ev) : Array Value := #[.int .i64 e.task, .int .i64 e.job, .int .i64 e.core, .int .i64 e.value, .int .i64 e.port]
theorem numsC_at {e : Ev} {j : Nat} (h : j < 5) : ∃ n, (TR.nums e)[j]? = some n ∧ (numsC e)[j]? = some (.int .i64 n) := by
  rcases (show j = 0 ∨ j = 1 ∨ j = 2 ∨ j = 3 ∨ j = 4 by omega) with rfl | rfl | rfl | rfl | rfl <;> exact ⟨_, rfl, rfl⟩
def TlRel (w : World) (bs : List UInt8) (e : Ev) (n2 : Nat) (v : Value) (wx : World) : Prop := ∃ j : Nat, j ≤ 5 ∧ v = .int .i64 (j : Int) ∧ BInv w w.heap.size w.heap.size (bs ++ (TR.head e ++ TR.tailP e j)) [(n2, 3, numsC e)] wx
def FmRel (w : World) (l : List Ev) (n : Nat) (i : Value) (wr : World) : Prop := ∃ k : Nat, k ≤ n ∧ i = .int .i64 (k : Int) ∧ BInv w w.heap.size w.heap.size (TR.fmt (l.take k)) [] wr
section
set_option maxHeartbeats 4000000
set_option maxRecDepth 100000
theorem formatT_any (l : List Ev) (A : Option Addr) (n c : Nat) (w : World) (hN : l.length = n) (hn : n ≤ 1000000) (hr : Row w A (evC l)) (hi : ∀ e ∈ l, TR.okI e) (hP : PowIs w) :
    Calls Tryz.prog 8 #[.slice A n c] w fun e w' => e = .returned (.string ⟨(TR.fmt l).toArray⟩) ∧ Below w.heap.size w w' := by
  have HN := Lib.hid hN
  have HR := Lib.hid hr
  have HI := Lib.hid hi
  have HP := Lib.hid (fun (V : World) (hV : Below w.heap.size w V) => hP.below hV)
  clear hN hr hi hP
  have hb0 : Below w.heap.size w (w.alloc (.cells #[.pointer none, .slice none 0 0] 48)) := (Below.refl _ _).alloc (Nat.le_refl _) _
  have HST := Lib.hid (show BInv w w.heap.size w.heap.size [] [] (w.alloc (.cells #[.pointer none, .slice none 0 0] 48)) from ⟨Lib.IsBuilderF.of (Lib.fresh_isBuilder 48 5 w), Nat.le_refl _, hb0, fun x hx => by simp at hx⟩)
  clear hb0
  go_enter Tryz.func8, Tryz.ntmps8
  go_wp2_with fail
  go_loopw [10] (fun v wr => FmRel w l n v wr) (fun v _ => n - (intOf v).toNat)
  case atStart => exact ⟨0, Nat.zero_le _, rfl, by simpa [TR.fmt] using HST.out⟩
  case round =>
    obtain ⟨k, hk, rfl, I⟩ := hrel
    have HB := Lib.hid I
    clear I HST
    by_cases hlt : k < n
    · obtain ⟨e, he⟩ : ∃ e, l[k]? = some e := ⟨_, List.getElem?_eq_getElem (by rw [HN.out]; exact hlt)⟩
      obtain ⟨rb, ro, rfl, _, x0, x1, x2, x3, x4, x5, x6, x7⟩ := ev_at (HR.out.below HB.out.be) he
      have hok := HI.out e (List.mem_of_getElem? he)
      have HOK := Lib.hid hok
      have I1 := HB.out.alloc (evV e) 26 (by decide) rfl
      have HI1 := Lib.hid I1
      have HTK := Lib.hid (TR.fmt_take he)
      have hln := TR.fmt_len (l.take k) (fun x hx => HI.out x (List.mem_of_mem_take hx))
      have hlk := List.length_take_le k l
      have HLN := Lib.hid (show (TR.fmt (l.take k)).length ≤ 163000000 by omega)
      have q0 : (k : Int) < (n : Int) := by omega
      clear I1 he hok hln hlk
      go_upto_region 5 with fail
      have l1 := Lib.itoa_length_le _ HOK.out.slot.1 HOK.out.slot.2
      have l2 := Lib.itoa_length_le _ HOK.out.cycle.1 HOK.out.cycle.2
      have l3 := TR.word_len e.kind
      generalize hw5 : wr.alloc (.cells #[.int .i64 e.slot, .int .i64 e.core, .int .i64 e.task, .int .i64 e.job, .int .u8 (e.kind : Int), .int .i64 e.value, .int .i64 e.cycle, .int .i64 e.port] _) = w5
      rw [show wr.alloc (.cells (evV e) 26) = w5 from hw5] at HI1
      clear hw5 x0 x1 x2 x3 x4 x5 x6 x7
      generalize wr.heap.size = n1 at *
      have HIS := Lib.hid (fun V (hV : Below w.heap.size w V) => itoa_bl e.slot HOK.out.slot V (HP.out V hV))
      have HIC := Lib.hid (fun V (hV : Below w.heap.size w V) => itoa_bl e.cycle HOK.out.cycle V (HP.out V hV))
      have HWD := Lib.hid (fun V => (word_any e.kind V).mono (fun e' V' h => (show e' = .returned (.string ⟨(TR.word e.kind).toArray⟩) ∧ Below V.heap.size V V' from ⟨h.1, by rw [h.2]; exact Below.refl _ _⟩)))
      go_cut [5] from 14 to 27 (fun p wx => p = .pointer (some ⟨n1, 0, none⟩) ∧ BInv w w.heap.size w.heap.size (TR.fmt (l.take k) ++ TR.head e) [(n1, 26, evV e)] wx)
      case first =>
        have C3 := cells3_ev HI1.out.b0
        obtain ⟨x0, x6, x4⟩ := C3
        have n3 : ¬ 9223372036854775807 < (Lib.itoa e.slot).length + 1 := by omega
        have n3b : ¬ 9223372036854775807 ≤ (Lib.itoa e.slot).length := by omega
        have n7 : ¬ 9223372036854775807 < (Lib.itoa e.slot).length + 1 + (Lib.itoa e.cycle).length := by omega
        have n8 : ¬ 9223372036854775807 < (Lib.itoa e.slot).length + 1 + (Lib.itoa e.cycle).length + 1 := by omega
        have n8b : ¬ 9223372036854775807 ≤ (Lib.itoa e.slot).length + 1 + (Lib.itoa e.cycle).length := by omega
        have n12 : ¬ 9223372036854775807 < (Lib.itoa e.slot).length + 1 + (Lib.itoa e.cycle).length + 1 + (TR.word e.kind).length := by omega
        clear l1 l2 l3
        go_region_held3 (fun V => V.cell? ⟨n1, 0, none⟩ = some (.int .i64 e.slot) ∧ V.cell? ⟨n1, 6, none⟩ = some (.int .i64 e.cycle) ∧ V.cell? ⟨n1, 4, none⟩ = some (.int .u8 (e.kind : Int))) (first | (with_reducible exact ⟨x0, x6, x4⟩) | (with_reducible exact cells3_drew ⟨x0, x6, x4⟩) | fail) (first | (go_at_call 15; (with_reducible refine (HIS.out _ (by first | (with_reducible exact HI1.out.be) | (with_reducible exact below_drew1t HI1.out.be))).mono ?_); rintro e' V' ⟨rfl, hb'⟩; have hb : Below _ _ V' := (by first | (with_reducible exact below_undrewt hb') | (with_reducible exact hb')); have HI1 := Lib.hid (HI1.out.below hb); have C3 := cells3_ev HI1.out.b0; obtain ⟨x0, x6, x4⟩ := C3) | (go_at_call 15; (with_reducible refine (HIC.out _ (by first | (with_reducible exact HI1.out.be) | (with_reducible exact below_drew1t HI1.out.be))).mono ?_); rintro e' V' ⟨rfl, hb'⟩; have hb : Below _ _ V' := (by first | (with_reducible exact below_undrewt hb') | (with_reducible exact hb')); have HI1 := Lib.hid (HI1.out.below hb); have C3 := cells3_ev HI1.out.b0; obtain ⟨x0, x6, x4⟩ := C3) | (go_at_call 16; (with_reducible refine (HWD.out _).mono ?_); rintro e' V' ⟨rfl, hb'⟩; have hb : Below _ _ V' := (by first | (with_reducible exact below_undrewt hb') | (with_reducible exact hb')); have HI1 := Lib.hid (HI1.out.below hb); have C3 := cells3_ev HI1.out.b0; obtain ⟨x0, x6, x4⟩ := C3) | (go_at_call 14; rw [head_str e]; (refine (bStr (TR.head e) HI1.out (by have := TR.tail_le e HOK.out 0; have := HLN.out; simp [TR.tailP] at *; omega)).mono ?_); rintro e' V' ⟨⟨v3, rfl⟩, I3, _⟩; have HI1 := Lib.hid I3; have C3 := cells3_ev HI1.out.b0; obtain ⟨x0, x6, x4⟩ := C3) | fail)
        all_goals
          go_wp2_with fail
          go_meet
          exact ⟨rfl, HI1.out⟩
      case rest =>
        obtain ⟨rfl, hcut⟩ := hcut
        have HI6 := Lib.hid hcut
        clear hcut HI1 HIS HIC HWD l1 l2 l3
        obtain ⟨x0, x1, x2, x3, x4, x5, x6, x7⟩ := (show Blk wc n1 26 #[.int .i64 e.slot, .int .i64 e.core, .int .i64 e.task, .int .i64 e.job, .int .u8 (e.kind : Int), .int .i64 e.value, .int .i64 e.cycle, .int .i64 e.port] from HI6.out.b0).eight
        have hal := HI6.out.alloc (numsC e) 3 (by decide) rfl
        have HAL := Lib.hid hal
        clear hal
        go_upto_region 6 with fail
        clear HI6
        rw [show numsC e = #[.int .i64 e.task, .int .i64 e.job, .int .i64 e.core, .int .i64 e.value, .int .i64 e.port] from rfl] at HAL
        go_wp2_with fail
        generalize hw7 : wc.alloc (.cells #[.int .i64 e.task, .int .i64 e.job, .int .i64 e.core, .int .i64 e.value, .int .i64 e.port] _) = w7
        rw [show wc.alloc (.cells #[.int .i64 e.task, .int .i64 e.job, .int .i64 e.core, .int .i64 e.value, .int .i64 e.port] 3) = w7 from hw7] at HAL
        clear hw7 x0 x1 x2 x3 x4 x5 x6 x7
        generalize wc.heap.size = n2 at *
        have HSTT := Lib.hid (show TlRel w (TR.fmt (l.take k)) e n2 (.int .i64 0) w7 from ⟨0, by omega, rfl, by
          have := HAL.out.sub (bl' := [(n2, 3, numsC e)]) (by intro x hx; simp at hx; subst hx; simp [numsC])
          simpa [TR.tailP] using this⟩)
        clear HAL
        go_loopw [40] (fun v wx => TlRel w (TR.fmt (l.take k)) e n2 v wx) (fun v _ => 5 - (intOf v).toNat)
        case atStart => exact HSTT.out
        case round =>
          obtain ⟨j, hj, rfl, J⟩ := hrel
          have HJ := Lib.hid J
          clear J HSTT
          by_cases hj5 : j < 5
          · obtain ⟨nj, hn1, hn2⟩ := numsC_at (e := e) hj5
            have cj := (HJ.out.b0.cell j).trans hn2
            have hi64 := TR.nums_ok HOK.out nj (List.mem_of_getElem? hn1)
            have HIT := Lib.hid (itoa_bl nj hi64 wr (HP.out _ HJ.out.be))
            have l1 := Lib.itoa_length_le _ hi64.1 hi64.2
            have HTS := Lib.hid (TR.tail_step hn1)
            have q1 : (j : Int) < 5 := by omega
            clear hn1 hn2 hi64
            go_wp2_with fail
            refine HIT.out.mono ?_
            rintro e' w8 ⟨rfl, hb8⟩
            have HJ8 := Lib.hid (HJ.out.below hb8)
            clear hb8 HIT HJ cj
            go_wp2_with fail
            rw [num_str]
            have hlen := TR.tail_le e HOK.out j
            refine (bStr (32 :: Lib.itoa nj) HJ8.out (by have := HLN.out; simp at hlen ⊢; omega)).mono ?_
            rintro e' w9 ⟨⟨v9, rfl⟩, J9, _⟩
            have HJ9 := Lib.hid J9
            clear J9 HJ8 hlen
            go_wp2_with fail
            exact ⟨⟨j + 1, by omega, by simp, by rw [HTS.out]; have := HJ9.out; simpa [List.append_assoc] using this⟩, by simp [intOf]; omega⟩
          · have q1 : ¬ (j : Int) < 5 := by omega
            obtain rfl : j = 5 := by omega
            have hlen := TR.tail_le e HOK.out 5
            have HBY := Lib.hid (bByte 10 10 rfl HJ.out (by have := HLN.out; simp at hlen ⊢; omega))
            clear hlen
            go_wp2_with fail
            refine HBY.out.mono ?_
            rintro e' w9 ⟨rfl, J9, _⟩
            have HJ9 := Lib.hid J9
            clear J9 HBY HJ
            go_wp2_with fail
            exact ⟨⟨k + 1, by omega, by simp, by
              have := HJ9.out.sub (bl' := []) (by intro x hx; simp at hx)
              rw [HTK.out, TR.line_eq]
              simpa [List.append_assoc] using this⟩, by simp [intOf]; omega⟩
    · have q0 : ¬ (k : Int) < (n : Int) := by omega
      have hkl : l.take k = l := List.take_of_length_le (by have := HN.out; omega)
      have HE := Lib.hid hkl
      clear hkl
      have HS := Lib.hid (Tryz.Builder_String_any_f w.heap.size w.heap.size (TR.fmt (l.take k)) wr HB.out.pg (by have := HB.out.be.size; omega))
      rw [HE.out] at HS
      clear HE
      go_wp2_with fail
      refine HS.out.mono ?_
      rintro e' w9 ⟨rfl, _, hb9⟩
      have HB9 := Lib.hid (HB.out.be.trans hb9)
      clear hb9 HS
      go_wp2_with fail
      go_ret
      exact ⟨rfl, HB9.out⟩
end
end Go.Proofs.YtpmbhdheeaejgaaGreatDoor
