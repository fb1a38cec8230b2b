/- The reference's text of a trace. -/
import Derived.Test.YtpmbhdheeaejgaaGreatDoorTrF
import Derived.Test.YtpmbhdheeaejgaaGreatDoorTrG
import Derived.Lib.ItoaMem
namespace Go.Proofs.YtpmbhdheeaejgaaGreatDoor
open Go.RowKit Go.Maps Go.Sort Go.Lib
open AU (Ev)
theorem dec_extract (n : Nat) : (⟨#[48, 49, 50, 51, 52, 53, 54, 55, 56, 57]⟩ : ByteArray).extract (n % 10) (n % 10 + 1) = ⟨#[UInt8.ofNat (48 + n % 10)]⟩ := by
  have h : n % 10 < 10 := Nat.mod_lt _ (by omega)
  generalize n % 10 = m at h
  match m, h with
  | 0, _ => rfl
  | 1, _ => rfl
  | 2, _ => rfl
  | 3, _ => rfl
  | 4, _ => rfl
  | 5, _ => rfl
  | 6, _ => rfl
  | 7, _ => rfl
  | 8, _ => rfl
  | 9, _ => rfl
  | m + 10, h => omega
theorem str_eqT {a : ByteArray} {l : List UInt8} (h : a.data.toList = l) : Ending.returned (.string a) = .returned (.string ⟨l.toArray⟩) := by
  subst h; rfl
theorem dec_lenT {n : Nat} (h : n ≤ 1152921504606846976) : (Lib.decDigits n).length ≤ 21 := by
  rw [← Lib.itoa_nonneg]
  exact Lib.itoa_length_le _ (by omega) (by omega)
def rwordsC : Array Value := #[.string ⟨#[117, 110, 107, 110, 111, 119, 110]⟩, .string ⟨#[114, 101, 108, 101, 97, 115, 101]⟩, .string ⟨#[100, 105, 115, 112, 97, 116, 99, 104]⟩, .string ⟨#[102, 105, 110, 105, 115, 104]⟩, .string ⟨#[116, 114, 97, 112]⟩, .string ⟨#[99, 117, 116, 111, 102, 102]⟩, .string ⟨#[108, 97, 116, 101]⟩, .string ⟨#[115, 101, 110, 100]⟩]
theorem rwords_at {k : Nat} (h : k < 8) : rwordsC[k]? = some (.string ⟨(TR.word k).toArray⟩) := by
  rcases (show k = 0 ∨ k = 1 ∨ k = 2 ∨ k = 3 ∨ k = 4 ∨ k = 5 ∨ k = 6 ∨ k = 7 by omega) with rfl | rfl | rfl | rfl | rfl | rfl | rfl | rfl <;> rfl
section
set_option maxHeartbeats 4000000
set_option maxRecDepth 100000
theorem rdec_nat : ∀ (n : Nat) (w : World), n ≤ 1152921504606846976 → Calls Tryz.prog 30 #[.int .i64 (n : Int)] w fun e w' => e = .returned (.string ⟨(Lib.decDigits n).toArray⟩) ∧ w = w' := by
  intro n
  induction n using Nat.strongRecOn with
  | _ n ih =>
    intro w hn
    have hx := dec_extract n
    by_cases hlt : n < 10
    · have hd : Lib.decDigits n = [UInt8.ofNat (48 + n % 10)] := by rw [Lib.decDigits, dif_pos hlt, Nat.mod_eq_of_lt hlt]
      generalize Lib.decDigits n = D at *
      subst hd
      clear ih
      go_enter Tryz.func30, Tryz.ntmps30
      go_wp2_with fail
      go_ret
      exact ⟨congrArg (fun x => Ending.returned (.string x)) hx, rfl⟩
    · have HD := Lib.hid (show Lib.decDigits n = Lib.decDigits (n / 10) ++ [UInt8.ofNat (48 + n % 10)] by rw [Lib.decDigits, dif_neg hlt])
      have hlen : (⟨(Lib.decDigits (n / 10)).toArray⟩ : ByteArray).size ≤ 21 := by
        have := dec_lenT (n := n / 10) (by omega)
        simpa [ByteArray.size] using this
      have hc := ih (n / 10) (by omega) w (by omega)
      rw [show ((n / 10 : Nat) : Int) = (n : Int) / 10 from by omega] at hc
      have HX := Lib.hid hx
      have hlx : ((⟨#[48, 49, 50, 51, 52, 53, 54, 55, 56, 57]⟩ : ByteArray).extract (n % 10) (n % 10 + 1)).size = 1 := by rw [hx]; rfl
      have HT : Hid ((⟨(Lib.decDigits (n / 10)).toArray⟩ : ByteArray).data.toList = Lib.decDigits (n / 10)) := Lib.hid rfl
      generalize (⟨(Lib.decDigits (n / 10)).toArray⟩ : ByteArray) = T at hc hlen HT
      have HC := Lib.hid hc
      clear ih hc hx
      go_enter Tryz.func30, Tryz.ntmps30
      go_wp2_with fail
      refine HC.out.mono ?_
      rintro e w' ⟨rfl, rfl⟩
      go_wp2_with fail
      go_ret
      refine ⟨str_eqT ?_, rfl⟩
      rw [HX.out, HD.out, ByteArray.data_append, Array.toList_append, HT.out]
theorem rdec_any (n : Int) (h : TR.b60 n) (w : World) : Calls Tryz.prog 30 #[.int .i64 n] w fun e w' => e = .returned (.string ⟨(Lib.itoa n).toArray⟩) ∧ w = w' := by
  obtain ⟨h1, h2⟩ := h
  by_cases hn : n < 0
  · obtain ⟨u, rfl⟩ : ∃ u : Nat, n = -(u : Int) := ⟨n.natAbs, by omega⟩
    have hu : u ≤ 1152921504606846976 := by omega
    have HC := Lib.hid (rdec_nat u w hu)
    have hi : Lib.itoa (-(u : Int)) = 45 :: Lib.decDigits u := Lib.itoa_neg u (by omega)
    rw [hi]
    have hl := dec_lenT hu
    have z1 : IntKind.i64.wrap (- -(u : Int)) = (u : Int) := by rw [Int.neg_neg]; exact IntWalk.i64_in _ (by omega)
    have z2 : - -(u : Int) = (u : Int) := Int.neg_neg _
    clear hi
    go_enter Tryz.func30, Tryz.ntmps30
    go_wp2_with fail
    refine HC.out.mono ?_
    rintro e w' ⟨rfl, rfl⟩
    go_wp2_with fail
    go_ret
    exact ⟨str_eqT (by simp [ByteArray.data_append]), rfl⟩
  · obtain ⟨u, rfl⟩ := Int.eq_ofNat_of_zero_le (show 0 ≤ n by omega)
    rw [Lib.itoa_nonneg]
    exact rdec_nat u w (by omega)
theorem rword_any (k : Nat) (hk : k ≤ 255) (w : World) : Calls Tryz.prog 31 #[.int .u8 (k : Int)] w fun e w' => e = .returned (.string ⟨(TR.word k).toArray⟩) ∧ Below w.heap.size w w' := by
  have hb := (Below.refl w.heap.size w).alloc (Nat.le_refl _) (.cells rwordsC 9)
  have HB := Lib.hid hb
  have HK := Lib.hid (Blk.new w 9 rwordsC)
  clear hb
  by_cases h8 : k < 8
  · have ck := (HK.out.cell k).trans (rwords_at h8)
    have d1 : decide ((8 : Int) ≤ (k : Int)) = false := decide_eq_false (by omega)
    have q0 : (k : Int) < 8 := by omega
    rw [show rwordsC = #[.string ⟨#[117, 110, 107, 110, 111, 119, 110]⟩, .string ⟨#[114, 101, 108, 101, 97, 115, 101]⟩, .string ⟨#[100, 105, 115, 112, 97, 116, 99, 104]⟩, .string ⟨#[102, 105, 110, 105, 115, 104]⟩, .string ⟨#[116, 114, 97, 112]⟩, .string ⟨#[99, 117, 116, 111, 102, 102]⟩, .string ⟨#[108, 97, 116, 101]⟩, .string ⟨#[115, 101, 110, 100]⟩] from rfl] at ck HB
    clear HK
    go_enter Tryz.func31, Tryz.ntmps31
    go_wp2_with fail
    go_ret
    exact ⟨rfl, HB.out⟩
  · have ck := (HK.out.cell 0).trans (rwords_at (k := 0) (by omega))
    have d1 : decide ((8 : Int) ≤ (k : Int)) = true := decide_eq_true (by omega)
    rw [show rwordsC = #[.string ⟨#[117, 110, 107, 110, 111, 119, 110]⟩, .string ⟨#[114, 101, 108, 101, 97, 115, 101]⟩, .string ⟨#[100, 105, 115, 112, 97, 116, 99, 104]⟩, .string ⟨#[102, 105, 110, 105, 115, 104]⟩, .string ⟨#[116, 114, 97, 112]⟩, .string ⟨#[99, 117, 116, 111, 102, 102]⟩, .string ⟨#[108, 97, 116, 101]⟩, .string ⟨#[115, 101, 110, 100]⟩] from rfl] at ck HB
    rw [TR.word_un (k := k) (by unfold TR.known; omega)]
    clear HK
    go_enter Tryz.func31, Tryz.ntmps31
    go_wp2_with fail
    go_ret
    exact ⟨rfl, HB.out⟩
theorem rline_any (e : Ev) (h : TR.ok60 e) (hk : e.kind ≤ 255) (w : World) : Calls Tryz.prog 19 #[.int .i64 e.slot, .int .i64 e.cycle, .int .u8 (e.kind : Int), .int .i64 e.task, .int .i64 e.job, .int .i64 e.core, .int .i64 e.value, .int .i64 e.port] w fun r w' => r = .returned (.string ⟨(TR.lineE e ++ [10]).toArray⟩) ∧ Below w.heap.size w w' := by
  have hI := h.okI
  have HI := Lib.hid hI
  have H6 := Lib.hid h
  have HS := Lib.hid (rdec_any e.slot (h _ (by simp [TR.nums7])) w)
  have HC := Lib.hid (rdec_any e.cycle (h _ (by simp [TR.nums7])) w)
  have HW := Lib.hid (rword_any e.kind hk w)
  have l1 := Lib.itoa_length_le _ hI.slot.1 hI.slot.2
  have l2 := Lib.itoa_length_le _ hI.cycle.1 hI.cycle.2
  have l3 := TR.word_len e.kind
  clear hI h hk
  go_enter Tryz.func19, Tryz.ntmps19
  go_wp2_with fail
  refine HS.out.mono ?_
  rintro r w1 ⟨rfl, rfl⟩
  go_wp2_with fail
  refine HC.out.mono ?_
  rintro r w1 ⟨rfl, rfl⟩
  go_wp2_with fail
  refine HW.out.mono ?_
  rintro r w2 ⟨rfl, hb2⟩
  have HB2 := Lib.hid hb2
  clear hb2 HS HC HW
  have HB3 := Lib.hid (HB2.out.alloc HB2.out.size (.cells (numsC e) 3))
  have HK3 := Lib.hid (Blk.new w2 3 (numsC e))
  rw [show numsC e = #[.int .i64 e.task, .int .i64 e.job, .int .i64 e.core, .int .i64 e.value, .int .i64 e.port] from rfl] at HB3
  go_upto_region 3 with fail
  rw [head_str e]
  have HST := Lib.hid (show ∃ j : Nat, j ≤ 5 ∧ (Value.int .i64 0) = .int .i64 (j : Int) ∧ (Value.string ⟨(TR.head e).toArray⟩) = .string ⟨(TR.head e ++ TR.tailP e j).toArray⟩ ∧ Blk (w2.alloc (.cells (numsC e) 3)) w2.heap.size 3 (numsC e) ∧ Below w.heap.size w (w2.alloc (.cells (numsC e) 3)) from ⟨0, by omega, rfl, by simp [TR.tailP], HK3.out, HB3.out⟩)
  rw [show w2.alloc (.cells (numsC e) 3) = w2.alloc (.cells #[.int .i64 e.task, .int .i64 e.job, .int .i64 e.core, .int .i64 e.value, .int .i64 e.port] 3) from rfl] at HST
  generalize hw3 : w2.alloc (.cells #[.int .i64 e.task, .int .i64 e.job, .int .i64 e.core, .int .i64 e.value, .int .i64 e.port] _) = w3
  rw [show w2.alloc (.cells #[.int .i64 e.task, .int .i64 e.job, .int .i64 e.core, .int .i64 e.value, .int .i64 e.port] 3) = w3 from hw3] at HST
  clear hw3 HK3 HB3 HB2 l1 l2 l3
  generalize w2.heap.size = n2 at *
  go_wp2_with fail
  go_loopw [17, 19] (fun sv iv wr => ∃ j : Nat, j ≤ 5 ∧ iv = .int .i64 (j : Int) ∧ sv = .string ⟨(TR.head e ++ TR.tailP e j).toArray⟩ ∧ Blk wr n2 3 (numsC e) ∧ Below w.heap.size w wr) (fun _ iv _ => 5 - (intOf iv).toNat)
  case atStart => exact HST.out
  case round =>
    obtain ⟨j, hj, rfl, rfl, hkk, hbb⟩ := hrel
    have HK := Lib.hid hkk
    have HB := Lib.hid hbb
    clear hkk hbb HST
    have hlen := TR.tail_le e HI.out j
    by_cases hj5 : j < 5
    · obtain ⟨nj, hn1, hn2⟩ := numsC_at (e := e) hj5
      have cj := (HK.out.cell j).trans hn2
      have hm : nj ∈ TR.nums7 e := by
        have := List.mem_of_getElem? hn1
        unfold TR.nums at this
        unfold TR.nums7
        simp at this ⊢
        rcases this with h | h | h | h | h <;> simp [h]
      have HIT := Lib.hid (rdec_any nj (H6.out nj hm) wr)
      have l1 := Lib.itoa_length_le nj (by have := (H6.out nj hm).1; omega) (by have := (H6.out nj hm).2; omega)
      have HTS := Lib.hid (TR.tail_step hn1)
      have q1 : (j : Int) < 5 := by omega
      clear hn1 hn2 hm
      generalize hX : TR.head e ++ TR.tailP e j = X at *
      have HX := Lib.hid hX
      clear hX
      go_wp2_with fail
      refine HIT.out.mono ?_
      rintro e' w8 ⟨rfl, rfl⟩
      clear HIT cj
      go_wp2_with fail
      exact ⟨⟨j + 1, by omega, by simp, by
        rw [HTS.out, ← List.append_assoc, HX.out]
        congr 1
        apply ByteArray.ext
        simp, HK.out, HB.out⟩, by simp [intOf]; omega⟩
    · have q1 : ¬ (j : Int) < 5 := by omega
      obtain rfl : j = 5 := by omega
      have HL := Lib.hid (TR.line_eq e)
      rw [← HL.out] at hlen ⊢
      clear HL
      generalize hX : TR.lineE e = X at *
      have HX := Lib.hid hX
      clear hX
      go_wp2_with fail
      go_ret
      exact ⟨str_eqT (by rw [HX.out]; simp [ByteArray.data_append]), HB.out⟩
theorem text_any (l : List Ev) (A : Option Addr) (c : Nat) (w : World) (hl : l.length ≤ 1000000) (hr : Row w A (evC l)) (h : ∀ e ∈ l, TR.ok60 e ∧ e.kind ≤ 255) :
    Calls Tryz.prog 10 #[.slice A l.length c] w fun e w' => e = .returned (.string ⟨(TR.fmt l).toArray⟩) ∧ Below w.heap.size w w' := by
  have HR := Lib.hid hr
  have H := Lib.hid h
  clear hr h
  go_enter Tryz.func10, Tryz.ntmps10
  go_wp2_with fail
  go_loopw [3, 8] (fun sv kv wr => ∃ k : Nat, k ≤ l.length ∧ kv = .int .i64 (k : Int) ∧ sv = .string ⟨(TR.fmt (l.take k)).toArray⟩ ∧ Below w.heap.size w wr) (fun _ kv _ => l.length - (intOf kv).toNat)
  case atStart => exact ⟨0, Nat.zero_le _, rfl, by simp [TR.fmt], Below.refl _ _⟩
  case round =>
    obtain ⟨k, hk, rfl, rfl, hbw⟩ := hrel
    have HB := Lib.hid hbw
    clear hbw
    by_cases hlt : k < l.length
    · have q0 : (k : Int) < (l.length : Int) := by omega
      obtain ⟨e, he⟩ : ∃ e, l[k]? = some e := ⟨_, List.getElem?_eq_getElem hlt⟩
      obtain ⟨rb, ro, rfl, _, x0, x1, x2, x3, x4, x5, x6, x7⟩ := ev_at (HR.out.below HB.out) he
      obtain ⟨h6, hk255⟩ := H.out e (List.mem_of_getElem? he)
      have HTK := Lib.hid (TR.fmt_take he)
      have hln := TR.fmt_len (l.take k) (fun x hx => (H.out x (List.mem_of_mem_take hx)).1.okI)
      have hlk := List.length_take_le k l
      have hll := TR.lineE_len h6.okI
      have hX1 : (TR.fmt (l.take k)).length ≤ 163000000 := by omega
      have HLN := Lib.hid (fun W => rline_any e h6 hk255 W)
      have HB3 := Lib.hid (HB.out.alloc HB.out.size (.cells #[.int .i64 e.slot, .int .i64 e.core, .int .i64 e.task, .int .i64 e.job, .int .u8 (e.kind : Int), .int .i64 e.value, .int .i64 e.cycle, .int .i64 e.port] 26))
      generalize hX : TR.fmt (l.take k) = X at *
      have HX := Lib.hid hX
      generalize hY : TR.lineE e = Y at *
      have HY := Lib.hid hY
      clear he h6 hk255 hln hlk hX hY
      go_upto_region 5 with fail
      generalize hw5 : wr.alloc (.cells #[.int .i64 e.slot, .int .i64 e.core, .int .i64 e.task, .int .i64 e.job, .int .u8 (e.kind : Int), .int .i64 e.value, .int .i64 e.cycle, .int .i64 e.port] _) = w5
      rw [show wr.alloc (.cells #[.int .i64 e.slot, .int .i64 e.core, .int .i64 e.task, .int .i64 e.job, .int .u8 (e.kind : Int), .int .i64 e.value, .int .i64 e.cycle, .int .i64 e.port] 26) = w5 from hw5] at HB3
      have hk5 : Blk w5 wr.heap.size 26 #[.int .i64 e.slot, .int .i64 e.core, .int .i64 e.task, .int .i64 e.job, .int .u8 (e.kind : Int), .int .i64 e.value, .int .i64 e.cycle, .int .i64 e.port] := by rw [← hw5]; exact Blk.new wr _ _
      clear hw5 x0 x1 x2 x3 x4 x5 x6 x7
      obtain ⟨x0, x1, x2, x3, x4, x5, x6, x7⟩ := hk5.eight
      clear hk5
      generalize wr.heap.size = n1 at *
      go_wp2_with fail
      refine (HLN.out w5).mono ?_
      rintro e' w8 ⟨rfl, hb8⟩
      have HB8 := Lib.hid (HB3.out.trans (hb8.mono HB3.out.size))
      clear HLN hb8
      go_wp2_with fail
      exact ⟨⟨k + 1, hlt, by simp, by
        rw [HTK.out]
        congr 1, HB8.out⟩, by simp [intOf]; omega⟩
    · have q0 : ¬ (k : Int) < (l.length : Int) := by omega
      have HE := Lib.hid (show l.take k = l from List.take_of_length_le (by omega))
      go_wp2_with fail
      go_ret
      exact ⟨by rw [HE.out]; rfl, HB.out⟩
end
end Go.Proofs.YtpmbhdheeaejgaaGreatDoor
