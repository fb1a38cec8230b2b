/- The contracts of asm.Assemble and asm.Disassemble. -/
import Derived.Test.YtgeagpplihecmaaDoorAsK
import Derived.Laws.MakeOwn
import Derived.Laws.AppendOwn
namespace Go.Proofs.YtgeagpplihecmaaDoor
open Go.RowKit
open AS (Ins)
def u32Cells (ws : List Nat) : List Value := ws.map fun (x : Nat) => Value.int .u32 (x : Int)
def asmR (l : List Ins) : List Nat × Nat := if 4096 < l.length then ([], 5) else if l.all AS.valid then (l.map AS.enc, 0) else ([], 3)
def AsEnd (w : World) (R : List Nat × Nat) (e : Ending) (w' : World) : Prop :=
  ∃ A n c, e = .returned (.tuple #[.slice A n c, .int .i64 (R.2 : Int)]) ∧ n = R.1.length ∧ Row w' A (u32Cells R.1) ∧ Below w.heap.size w w'
theorem asend_none {w w' : World} {e : Nat} {v : Value} (hb : Below w.heap.size w w') (hv : v = .tuple #[.slice none 0 0, .int .i64 (e : Int)]) : AsEnd w ([], e) (.returned v) w' := by
  subst hv
  exact ⟨none, 0, 0, rfl, rfl, fun h => absurd rfl h, hb⟩
theorem infoU32 : (Tryd.prog.info? 44).map (fun i => (i.zero, i.size, i.bytes)) = some (some (.int .u32 0), 1, 4) := by kernel_rfl
def AmRel (w : World) (l : List Ins) (v i : Value) (wr : World) : Prop :=
  ∃ k : Nat, k ≤ l.length ∧ i = .int .i64 (k : Int) ∧ (l.take k).all AS.valid = true ∧ wr.ownsRow w.heap.size 44 1 v k (u32Cells ((l.take k).map AS.enc)) ∧ Below w.heap.size w wr
section
set_option maxHeartbeats 2000000
set_option maxRecDepth 100000
theorem assemble_any (l : List Ins) (A : Option Addr) (n c : Nat) (w : World) (hN : l.length = n) (hn : n ≤ 1000000) (hr : Row w A (insCells l)) (ho : ∀ i ∈ l, i.op ≤ 255) (hF : FmtIs w) :
    Calls Tryd.prog 20 #[.slice A n c] w (AsEnd w (asmR l)) := by
  have hR0 : asmR l = if 4096 < l.length then ([], 5) else if l.all AS.valid then (l.map AS.enc, 0) else ([], 3) := rfl
  have HN := Lib.hid hN
  have HR := Lib.hid hr
  have HO := Lib.hid ho
  have HF := Lib.hid hF
  clear hN hr ho hF
  generalize asmR l = R at *
  by_cases hbig : 4096 < n
  · have e1 : decide ((4096 : Int) < (n : Int)) = true := by simp; omega
    have HRR := Lib.hid (show R = ([], 5) by rw [hR0, if_pos (by rw [HN.out]; exact hbig)])
    clear hR0
    go_enter Tryd.func20, Tryd.ntmps20
    go_wp2_with fail
    go_ret2
    rw [HRR.out]
    exact asend_none (Below.refl _ _) rfl
  have e1 : decide ((4096 : Int) < (n : Int)) = false := by simp; omega
  have HFM := Lib.hid (show R = if l.all AS.valid then (l.map AS.enc, 0) else ([], 3) by rw [hR0, if_neg (by rw [HN.out]; exact hbig)])
  clear hR0
  obtain ⟨i1, ki, kz0, kz1, kz2⟩ := info_parts infoU32
  obtain ⟨w1, hmk, hown1, hg1⟩ := run_make_own (P := Tryd.prog) w w.heap.size 41 44 i1 (.int .u32 0) 1 Tryd.underlying41 ki kz0 kz1 .i64 .i64 n (by rw [kz2]; omega) (by unfold maxLen; omega) (Nat.le_refl _)
  have HST := Lib.hid (show AmRel w l (.slice (some ⟨w.heap.size, 0, none⟩) 0 n) (.int .i64 0) w1 from ⟨0, Nat.zero_le _, rfl, by simp, by simpa [u32Cells] using hown1, below_grow (Below.refl _ _) hg1 (Nat.le_refl _) (fun k h => by cases h)⟩)
  have K0 := Lib.hid ki
  have K1 := Lib.hid kz0
  have K2 := Lib.hid kz1
  have K3 := Lib.hid kz2
  clear ki kz0 kz1 kz2 hown1 hg1
  go_enter Tryd.func20, Tryd.ntmps20
  go_wp2_with fail
  go_loopw [4, 17] (fun v i wr => AmRel w l v i wr) (fun _ i _ => n - (intOf i).toNat)
  case atStart => exact HST.out
  case round =>
    obtain ⟨k, hk, rfl, hall, hown, hbw⟩ := hrel
    obtain ⟨A4, c4, rfl⟩ := own_form hown
    have HOW := Lib.hid hown
    have HBW := Lib.hid hbw
    have HALL := Lib.hid hall
    have hsw := hbw.size
    clear hown hall
    by_cases hlt : k < n
    · have hlt' : k < l.length := by rw [HN.out]; exact hlt
      obtain ⟨i, hi⟩ : ∃ i, l[k]? = some i := ⟨_, List.getElem?_eq_getElem hlt'⟩
      obtain ⟨rb, ro, rfl, hrb, c0, c1, c2, c3, c4'⟩ := (HR.out.below hbw).ins hi
      have hop := HO.out i (List.mem_of_getElem? hi)
      have hbx : Below wr.heap.size wr (wr.alloc (.cells (insV i) 48)) := (Below.refl _ _).alloc (Nat.le_refl _) _
      have HEN := Lib.hid (encode_any i hop (wr.alloc (.cells (insV i) 48)) (HF.out.below (hbw.trans (hbx.mono hsw))))
      have HI := Lib.hid hi
      have HBX := Lib.hid hbx
      have q0 : (k : Int) < (n : Int) := by omega
      clear hrb hbw hbx hi
      cases hv : AS.valid i with
      | false =>
        have hR : R = ([], 3) := by
          rw [HFM.out, if_neg]
          intro h
          have := List.all_eq_true.1 h i (List.mem_of_getElem? HI.out)
          rw [hv] at this; cases this
        have HRR := Lib.hid hR
        have hen : encR i = (0, 3) := by unfold encR; rw [hv]; rfl
        rw [hen] at HEN
        clear hR hv hen
        go_wp2_with fail
        refine HEN.out.mono ?_
        rintro e w2 ⟨rfl, hb2⟩
        have HB2 := Lib.hid (HBW.out.trans ((HBX.out.trans (hb2.mono HBX.out.size)).mono hsw))
        clear hb2
        go_wp2_with fail
        go_ret2
        rw [HRR.out]
        exact asend_none HB2.out rfl
      | true =>
        have HV := Lib.hid hv
        have hen : encR i = (AS.enc i, 0) := by unfold encR; rw [hv]; rfl
        rw [hen] at HEN
        clear hv hen
        go_wp2_with fail
        refine HEN.out.mono ?_
        rintro e w2 ⟨rfl, hb2⟩
        have hb2' := HBX.out.trans (hb2.mono HBX.out.size)
        have HB2 := Lib.hid (HBW.out.trans (hb2'.mono hsw))
        have HOW2 := Lib.hid (own_below HOW.out hb2')
        have hs2 := HB2.out.size
        clear hb2 hb2'
        go_wp2_with (at_builtin; refine wpList_append_own _ rfl _ _ 41 rfl w.heap.size 44 i1 (.int .u32 0) 1 4 Tryd.underlying41 K0.out K1.out K2.out K3.out rfl (by decide) _ _ _ rfl (HOW2.out.alloc _) ⟨w2.heap.size, 0, none⟩ 1 1 [.int .u32 (AS.enc i : Int)] rfl rfl ?c1 ?c2 ?c3 ?c4 ?c5 ?_)
        case c1 =>
          have hb := Blk.new w2 44 #[.int .u32 (AS.enc i : Int)]
          intro j u hj
          have e : (⟨w2.heap.size, 0, none⟩ : Addr).add j = ⟨w2.heap.size, j, none⟩ := by unfold Addr.add; split <;> simp_all
          rw [e]
          exact (hb.cell j).trans (by rw [← List.getElem?_toArray] at hj; exact hj)
        case c2 => intro u hu; simp at hu; rcases hu with rfl; rfl
        case c3 => unfold maxLen; omega
        case c4 => omega
        case c5 => simp; omega
        intro v' w6 hown6 hg6 _
        have hlt6 := HOW2.out.lt
        have HB6 := Lib.hid (show Below w.heap.size w w6 from Below.grown (HB2.out.alloc hs2 (.cells #[.int .u32 (AS.enc i : Int)] 44)) hg6 (by simp; omega) (fun k hk => (hlt6 k hk).1))
        obtain ⟨hkl, hie⟩ := List.getElem?_eq_some_iff.1 HI.out
        have HR6 := Lib.hid (show w6.ownsRow w.heap.size 44 1 v' (k + 1) (u32Cells ((l.take (k + 1)).map AS.enc)) from (by
          rw [List.take_succ_eq_append_getElem hkl, hie]
          have h := hown6
          simpa [u32Cells] using h))
        have HA6 := Lib.hid (show (l.take (k + 1)).all AS.valid = true by
          rw [List.take_succ_eq_append_getElem hkl, List.all_append, HALL.out, hie]; simp [HV.out])
        clear hown6 hg6 hlt6
        go_wp2_with fail
        exact ⟨⟨k + 1, by omega, by simp, HA6.out, HR6.out, HB6.out⟩, by simp [intOf]; omega⟩
    · obtain rfl : k = n := by have := HN.out; omega
      have q1 : ¬ (k : Int) < (k : Int) := by omega
      have htk : l.take k = l := by rw [← HN.out]; exact List.take_length
      rw [htk] at HALL HOW
      have HRR := Lib.hid (show R = (l.map AS.enc, 0) by rw [HFM.out, if_pos HALL.out])
      clear htk
      go_wp2_with fail
      go_ret2
      rw [HRR.out]
      refine ⟨A4, k, c4, rfl, by simp; exact HN.out.symm, row_own HOW.out (fun h => ?_), HBW.out⟩
      rcases Nat.eq_zero_or_pos k with h0 | h0
      · exact absurd (by rw [show l = [] from List.eq_nil_of_length_eq_zero (by rw [HN.out]; omega)]; rfl) h
      · exact h0
end
end Go.Proofs.YtgeagpplihecmaaDoor
