/- The contract of asm.Disassemble. -/
import Derived.Test.YtgeagpplihecmaaDoorAsN
namespace Go.Proofs.YtgeagpplihecmaaDoor
open Go.RowKit
open AS (Ins)
def disL : List Nat → Nat → List Ins → List Ins × Nat × Nat
  | [], _, acc => (acc, 0, 0)
  | x :: xs, k, acc => match AS.dec x with
    | none => ([], k, 3)
    | some i => disL xs (k + 1) (acc ++ [i])
def disR (ws : List Nat) : List Ins × Nat × Nat := if 4096 < ws.length then ([], 0, 5) else disL ws 0 []
theorem Row.u32 {w : World} {A : Option Addr} {ws : List Nat} (h : Row w A (u32Cells ws)) {k x : Nat} (hk : ws[k]? = some x) : ∃ b o, A = some ⟨b, o, none⟩ ∧ b < w.heap.size ∧ w.cell? ⟨b, o + k, none⟩ = some (.int .u32 (x : Int)) := by
  have hm := List.mem_of_getElem? hk
  obtain ⟨b, o, hA, hb, hc⟩ := h (fun e => by unfold u32Cells at e; rw [List.map_eq_nil_iff] at e; rw [e] at hm; simp at hm)
  exact ⟨b, o, hA, hb, hc k _ (by simp [u32Cells, hk])⟩
def DiRel (w : World) (ws : List Nat) (R : List Ins × Nat × Nat) (v i : Value) (wr : World) : Prop :=
  ∃ (k : Nat) (acc : List Ins), k ≤ ws.length ∧ acc.length = k ∧ i = .int .i64 (k : Int) ∧ wr.ownsRow w.heap.size 48 5 v acc.length (insCells acc) ∧ Below w.heap.size w wr ∧ disL (ws.drop k) k acc = R
section
set_option maxHeartbeats 2000000
set_option maxRecDepth 100000
theorem disassemble_any (ws : List Nat) (A : Option Addr) (n c : Nat) (w : World) (hN : ws.length = n) (hn : n ≤ 1000000) (hr : Row w A (u32Cells ws)) (ho : ∀ x ∈ ws, x < 4294967296) (hF : FmtIs w) :
    Calls Tryd.prog 22 #[.slice A n c] w (PaEnd w (disR ws)) := by
  have hR0 : disR ws = if 4096 < ws.length then ([], 0, 5) else disL ws 0 [] := rfl
  have HN := Lib.hid hN
  have HR := Lib.hid hr
  have HO := Lib.hid ho
  have HF := Lib.hid hF
  clear hN hr ho hF
  generalize disR ws = R at *
  by_cases hbig : 4096 < n
  · have e1 : decide ((4096 : Int) < (n : Int)) = true := by simp; omega
    have HRR := Lib.hid (show R = ([], 0, 5) by rw [hR0, if_pos (by rw [HN.out]; exact hbig)])
    clear hR0
    go_enter Tryd.func22, Tryd.ntmps22
    go_wp2_with fail
    go_ret3
    rw [HRR.out]
    exact paend_none (Below.refl _ _) rfl
  have e1 : decide ((4096 : Int) < (n : Int)) = false := by simp; omega
  have hR1 : disL ws 0 [] = R := by rw [hR0, if_neg (by rw [HN.out]; exact hbig)]
  clear hR0
  obtain ⟨i1, ki, kz0, kz1, kz2⟩ := info_parts infoIns
  obtain ⟨w1, hmk, hown1, hg1⟩ := run_make_own (P := Tryd.prog) w w.heap.size 22 48 i1 (.agg #[.int .u8 0, .int .i64 0, .int .i64 0, .int .i64 0, .int .i64 0]) 5 Tryd.underlying22 ki kz0 kz1 .i64 .i64 n (by rw [kz2]; omega) (by unfold maxLen; omega) (Nat.le_refl _)
  have HST := Lib.hid (show DiRel w ws R (.slice (some ⟨w.heap.size, 0, none⟩) 0 n) (.int .i64 0) w1 from ⟨0, [], Nat.zero_le _, rfl, rfl, by simpa [insCells] using hown1, below_grow (Below.refl _ _) hg1 (Nat.le_refl _) (fun k h => by cases h), hR1⟩)
  have K0 := Lib.hid ki
  have K1 := Lib.hid kz0
  have K2 := Lib.hid kz1
  have K3 := Lib.hid kz2
  clear ki kz0 kz1 kz2 hown1 hg1 hR1
  go_enter Tryd.func22, Tryd.ntmps22
  go_wp2_with fail
  go_loopw [5, 18] (fun v i wr => DiRel w ws R v i wr) (fun _ i _ => n - (intOf i).toNat)
  case atStart => exact HST.out
  case round =>
    obtain ⟨k, acc, hk, hak, rfl, hown, hbw, hrd⟩ := hrel
    obtain ⟨A4, c4, rfl⟩ := own_form hown
    have HOW := Lib.hid hown
    have HBW := Lib.hid hbw
    have HRD := Lib.hid hrd
    have hsw := hbw.size
    have HAK := Lib.hid hak
    clear hown hrd hak
    by_cases hlt : k < n
    · have hlt' : k < ws.length := by rw [HN.out]; exact hlt
      obtain ⟨x, hx⟩ : ∃ x, ws[k]? = some x := ⟨_, List.getElem?_eq_getElem hlt'⟩
      obtain ⟨rb, ro, rfl, hrb, c0⟩ := (HR.out.below hbw).u32 hx
      have hx32 := HO.out x (List.mem_of_getElem? hx)
      have HDE := Lib.hid (decode_any x hx32 wr (HF.out.below hbw))
      have hdr : ws.drop k = x :: ws.drop (k + 1) := by
        obtain ⟨h2, h3⟩ := List.getElem?_eq_some_iff.1 hx
        rw [← h3]; exact List.drop_eq_getElem_cons h2
      have hrd := HRD.out
      rw [hdr, disL] at hrd
      have q0 : (k : Int) < (n : Int) := by omega
      have HRX := Lib.hid hrd
      clear hrb hbw hx hdr hrd HRD
      cases hd : AS.dec x with
      | none =>
        have HRR := Lib.hid (show R = ([], k, 3) by have h := HRX.out; rw [hd] at h; exact h.symm)
        have hde : decR x = (Ins.zero, 3) := by unfold decR; rw [hd]
        rw [hde] at HDE
        clear hd hde HRX
        go_wp2_with fail
        refine HDE.out.mono ?_
        rintro e w2 ⟨rfl, hb2⟩
        have HB2 := Lib.hid ((HBW.out.trans (hb2.mono hsw)).alloc (Nat.le_trans hsw hb2.size) (.cells (insV Ins.zero) 48))
        rw [show insV Ins.zero = #[.int .u8 0, .int .i64 0, .int .i64 0, .int .i64 0, .int .i64 0] from rfl]
        clear hb2
        go_wp2_with fail
        go_ret3
        rw [HRR.out]
        exact paend_none HB2.out rfl
      | some i =>
        have HRR := Lib.hid (show disL (ws.drop (k + 1)) (k + 1) (acc ++ [i]) = R by have h := HRX.out; rw [hd] at h; exact h)
        have hde : decR x = (i, 0) := by unfold decR; rw [hd]
        rw [hde] at HDE
        clear hd hde HRX
        go_wp2_with fail
        refine HDE.out.mono ?_
        rintro e w2 ⟨rfl, hb2⟩
        rw [show insV (i, 0).1 = #[.int .u8 (i.op : Int), .int .i64 i.a, .int .i64 i.b, .int .i64 i.c, .int .i64 i.imm] from rfl]
        have HB2 := Lib.hid (HBW.out.trans (hb2.mono hsw))
        have HOW2 := Lib.hid (own_below HOW.out hb2)
        have hs2 := HB2.out.size
        clear hb2
        go_wp2_with (at_builtin; refine wpList_append_own _ rfl _ _ 22 rfl w.heap.size 48 i1 (.agg #[.int .u8 0, .int .i64 0, .int .i64 0, .int .i64 0, .int .i64 0]) 5 40 Tryd.underlying22 K0.out K1.out K2.out K3.out rfl (by decide) _ _ _ rfl ((HOW2.out.alloc _).alloc _) ⟨w2.heap.size + 1, 0, none⟩ 1 1 [.int .u8 (i.op : Int), .int .i64 i.a, .int .i64 i.b, .int .i64 i.c, .int .i64 i.imm] rfl rfl ?c1 ?c2 ?c3 ?c4 ?c5 ?_)
        case c1 =>
          have hb := blk_second w2 48 48 (insV i) (insV i)
          intro j u hj
          have e : (⟨w2.heap.size + 1, 0, none⟩ : Addr).add j = ⟨w2.heap.size + 1, j, none⟩ := by unfold Addr.add; split <;> simp_all
          rw [e]
          exact (hb.cell j).trans (by rw [← List.getElem?_toArray] at hj; exact hj)
        case c2 => intro u hu; simp at hu; rcases hu with rfl | rfl | rfl | rfl | rfl <;> rfl
        case c3 => have := HAK.out; unfold maxLen; omega
        case c4 => have := HAK.out; omega
        case c5 => simp; have := HAK.out; omega
        intro v' w6 hown6 hg6 _
        have hlt6 := HOW2.out.lt
        have HB6 := Lib.hid (show Below w.heap.size w w6 from Below.grown ((HB2.out.alloc hs2 (.cells (insV i) 48)).alloc (by simp; omega) (.cells (insV i) 48)) hg6 (by simp; omega) (fun k hk => (hlt6 k hk).1))
        have HR6 := Lib.hid (show w6.ownsRow w.heap.size 48 5 v' (acc ++ [i]).length (insCells (acc ++ [i])) from (by
          have h := hown6
          simpa [insCells, insV] using h))
        clear hown6 hg6 hlt6
        go_wp2_with fail
        exact ⟨⟨k + 1, acc ++ [i], by omega, by simp [HAK.out], by simp, HR6.out, HB6.out, HRR.out⟩, by simp [intOf]; omega⟩
    · obtain rfl : k = n := by have := HN.out; omega
      have q1 : ¬ (k : Int) < (k : Int) := by omega
      have HRR := Lib.hid (show R = (acc, 0, 0) by
        have h := HRD.out
        rw [List.drop_eq_nil_of_le (by rw [HN.out]; omega), disL] at h
        exact h.symm)
      go_wp2_with fail
      go_ret3
      rw [HRR.out]
      refine ⟨A4, acc.length, c4, rfl, rfl, row_own HOW.out (fun h => ?_), HBW.out⟩
      rcases Nat.eq_zero_or_pos acc.length with h0 | h0
      · exact absurd (by rw [List.eq_nil_of_length_eq_zero h0]; rfl) h
      · exact h0
end
end Go.Proofs.YtgeagpplihecmaaDoor
