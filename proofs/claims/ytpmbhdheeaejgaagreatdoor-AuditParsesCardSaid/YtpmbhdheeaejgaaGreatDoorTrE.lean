/- The text of a trace, read: audit.Parse. -/
import Derived.Test.YtpmbhdheeaejgaaGreatDoorTrD
import Derived.Test.YtpmbhdheeaejgaaGreatDoorAuE
import Derived.Maps.AppendAt
namespace Go.Proofs.YtpmbhdheeaejgaaGreatDoor
open Go.RowKit Go.Maps Go.Sort Go.Lib
open AU (Ev)
theorem row_own {w : World} {base : Nat} {e : TypeId} {size n c : Nat} {A : Option Addr} {xs : List Value} (h : w.ownsRow base e size (.slice A n c) n xs) : Row w A xs := fun hn => by
  have hn0 : 0 < n := by
    rcases Nat.eq_zero_or_pos n with h0 | h0
    · have := h.1
      rw [h0] at this
      simp at this
      exact absurd this hn
    · exact h0
  obtain ⟨g, cap, hv, _, hlt, _, hc⟩ := own_cells h hn0
  injection hv with hA
  subst hA
  exact ⟨g, 0, rfl, hlt, fun i v hi => by rw [Nat.zero_add]; exact hc i v hi⟩
/-- What audit.Parse reads. -/
def TR.all (l : List UInt8) : List Ev × Nat × Nat := if 1048576 < l.length then ([], 0, 5) else TR.runP (l.length + 1) l 1 []
def ParRel (w : World) (N : Nat) (R : List Ev × Nat × Nat) (v sv nv : Value) (W : World) : Prop :=
  ∃ (f n : Nat) (s : List UInt8) (acc : List Ev), sv = .string ⟨s.toArray⟩ ∧ nv = .int .i64 (n : Int) ∧ W.ownsRow w.heap.size tEv 8 v acc.length (evC acc) ∧ Below w.heap.size w W ∧ TR.runP f s n acc = R ∧ s.length < f ∧ n + s.length ≤ N + 1 ∧ acc.length ≤ n
theorem TR.cutP_len (c : UInt8) : ∀ (l cur : TR.Bytes), (TR.cutP c cur l).1.length ≤ cur.length + l.length ∧ (l ≠ [] → (TR.cutP c cur l).2.1.length < l.length)
  | [], cur => by simp [TR.cutP]
  | b :: l, cur => by
    rw [TR.cutP]
    split
    · exact ⟨by simp, fun _ => by simp⟩
    · obtain ⟨h1, h2⟩ := TR.cutP_len c l (cur ++ [b])
      refine ⟨by simp at h1 ⊢; omega, fun _ => ?_⟩
      cases l with
      | nil => simp [TR.cutP]
      | cons x l => have := h2 (by simp); simp at this ⊢; omega
section
set_option maxHeartbeats 4000000
set_option maxRecDepth 100000
theorem parseT_any (l : List UInt8) (hs : l.length ≤ 1000000000) (w : World) (hT : TrIs w) :
    Calls Tryz.prog 7 #[.string ⟨l.toArray⟩] w fun e w' => ∃ A c, e = .returned (.tuple #[.slice A (TR.all l).1.length c, .int .i64 ((TR.all l).2.1 : Int), .int .i64 ((TR.all l).2.2 : Int)]) ∧ Row w' A (evC (TR.all l).1) ∧ Below w.heap.size w w' := by
  obtain ⟨i1, ki, kz0, kz1, kz2⟩ := info_parts infoEv
  have K0 := Lib.hid ki
  have K1 := Lib.hid kz0
  have K2 := Lib.hid kz1
  have K3 := Lib.hid kz2
  have HT := Lib.hid hT
  have hz : (⟨l.toArray⟩ : ByteArray).size = l.length := by simp [ByteArray.size]
  have hall : TR.all l = if 1048576 < l.length then ([], 0, 5) else TR.runP (l.length + 1) l 1 [] := rfl
  generalize TR.all l = R at *
  by_cases hbig : 1048576 < l.length
  · have q1 : (1048576 : Int) < (l.length : Int) := by omega
    have HR := Lib.hid (show R = ([], 0, 5) by rw [hall, if_pos hbig])
    clear hall hT ki kz0 kz1 kz2 hz
    go_enter Tryz.func7, Tryz.ntmps7
    go_wp2_with fail
    go_ret3
    rw [HR.out]
    exact ⟨none, 0, rfl, fun h => absurd rfl h, Below.refl _ _⟩
  have q1 : ¬ (1048576 : Int) < (l.length : Int) := by omega
  have HST := Lib.hid (show ParRel w l.length R (.slice none 0 0) (.string ⟨l.toArray⟩) (.int .i64 1) w from ⟨l.length + 1, 1, l, [], rfl, rfl, World.ownsRow_nil _ _ _ _, Below.refl _ _, by rw [hall, if_neg hbig], Nat.lt_succ_self _, by omega, by simp⟩)
  clear hall hT ki kz0 kz1 kz2 hz
  go_enter Tryz.func7, Tryz.ntmps7
  go_wp2_with fail
  go_loopw [5, 0, 6] (fun v sv nv wr => ParRel w l.length R v sv nv wr) (fun _ _ nv _ => 1000000000 - (intOf nv).toNat)
  case atStart => exact HST.out
  case round =>
    obtain ⟨f, n, s, acc, rfl, rfl, hown, hbw, hrun, hsf, hns, han⟩ := hrel
    obtain ⟨A5, c5, rfl⟩ := own_form hown
    have HO := Lib.hid hown
    have HB := Lib.hid hbw
    have HRUN := Lib.hid hrun
    have hsw := hbw.size
    clear HST hown hbw hrun
    by_cases h0 : s = []
    · have HR := Lib.hid (show R = (acc, 0, 0) by
        rw [← HRUN.out]
        obtain ⟨f, rfl⟩ : ∃ j, f = j + 1 := ⟨f - 1, by omega⟩
        rw [TR.runP, if_pos h0])
      have HW := Lib.hid (row_own HO.out)
      subst h0
      clear HRUN
      go_wp2_with fail
      go_ret3
      rw [HR.out]
      exact ⟨A5, c5, rfl, HW.out, HB.out⟩
    · have n0 : (s == []) = false := by simp [h0]
      obtain ⟨f, rfl⟩ : ∃ j, f = j + 1 := ⟨f - 1, by omega⟩
      have hrun := HRUN.out
      rw [TR.runP, if_neg h0] at hrun
      obtain ⟨hc1, hc2⟩ := TR.cutP_len 10 s []
      have hc2 := hc2 h0
      obtain ⟨m1, hm1, _⟩ := (HT.out.below HB.out).max
      have hz : (⟨s.toArray⟩ : ByteArray).size = s.length := by simp [ByteArray.size]
      have hcut := Tryz.strings_Cut ⟨s.toArray⟩ ⟨#[10]⟩ m1 wr (by omega) hm1
      rw [show (⟨#[10]⟩ : ByteArray).data.toList = [10] from rfl, show (⟨s.toArray⟩ : ByteArray).data.toList = s from rfl, TR.cut_eq] at hcut
      generalize TR.cutP 10 [] s = C at *
      obtain ⟨a, r, ended⟩ := C
      simp only at hrun hc1 hc2 hcut
      have HCUT := Lib.hid hcut
      have HRN := Lib.hid hrun
      have hn9 : n ≤ 1048577 := by omega
      clear hcut hrun HRUN hm1 hz
      go_wp2_with fail
      refine HCUT.out.mono ?_
      rintro e w2 ⟨rfl, q2, hw2⟩
      have hb2 : Below wr.heap.size wr w2 := by rw [hw2]; exact below_drewN (Below.refl _ _) q2
      have HB2 := Lib.hid (HB.out.trans (hb2.mono hsw))
      have HO2 := Lib.hid (show w2.ownsRow w.heap.size tEv 8 (.slice A5 acc.length c5) acc.length (evC acc) by rw [hw2]; exact HO.out)
      have HPL := Lib.hid (parseL_any a (by simp at hc1; omega) w2 (HT.out.below HB2.out))
      clear hw2 hb2 HCUT
      go_wp2_with fail
      refine HPL.out.mono ?_
      rintro e w3 ⟨rfl, hb3⟩
      have HB3 := Lib.hid (HB2.out.trans (hb3.mono HB2.out.size))
      have HO3 := Lib.hid (own_below HO2.out hb3)
      clear hb3 HPL
      unfold parseV
      cases hp : TR.parseP a with
      | none =>
        have HR := Lib.hid (show R = ([], n, 3) by rw [← HRN.out, hp])
        simp only
        rw [show evV TR.ev0 = #[.int .i64 0, .int .i64 0, .int .i64 0, .int .i64 0, .int .u8 0, .int .i64 0, .int .i64 0, .int .i64 0] from rfl]
        have HB4 := Lib.hid (HB3.out.alloc HB3.out.size (.cells #[.int .i64 0, .int .i64 0, .int .i64 0, .int .i64 0, .int .u8 0, .int .i64 0, .int .i64 0, .int .i64 0] tEv))
        clear hp HRN
        go_wp2_with fail
        go_ret3
        rw [HR.out]
        exact ⟨none, 0, rfl, fun h => absurd rfl h, HB4.out⟩
      | some e =>
        simp only
        have hrn := HRN.out
        rw [hp] at hrn
        simp only at hrn
        rw [show evV e = #[.int .i64 e.slot, .int .i64 e.core, .int .i64 e.task, .int .i64 e.job, .int .u8 (e.kind : Int), .int .i64 e.value, .int .i64 e.cycle, .int .i64 e.port] from rfl]
        have HB4 := Lib.hid (HB3.out.alloc HB3.out.size (.cells #[.int .i64 e.slot, .int .i64 e.core, .int .i64 e.task, .int .i64 e.job, .int .u8 (e.kind : Int), .int .i64 e.value, .int .i64 e.cycle, .int .i64 e.port] tEv))
        clear hp HRN
        cases ended with
        | false =>
          have HR := Lib.hid (show R = ([], n, 4) by rw [← hrn]; rfl)
          clear hrn
          go_wp2_with fail
          go_ret3
          rw [HR.out]
          exact ⟨none, 0, rfl, fun h => absurd rfl h, HB4.out⟩
        | true =>
          have HRN2 := Lib.hid (show TR.runP f r (n + 1) (acc ++ [e]) = R from hrn)
          have hacc : acc.length ≤ 1048577 := by omega
          clear hrn
          go_wp2_with (at_builtin; refine wpList_append_own _ rfl _ _ 22 rfl w.heap.size 26 i1 (.agg #[.int .i64 0, .int .i64 0, .int .i64 0, .int .i64 0, .int .u8 0, .int .i64 0, .int .i64 0, .int .i64 0]) 8 64 Tryz.underlying22 K0.out K1.out K2.out K3.out rfl (by decide) _ _ _ rfl ((HO3.out.alloc _).alloc _) ⟨w3.heap.size + 1, 0, none⟩ 1 1 [.int .i64 e.slot, .int .i64 e.core, .int .i64 e.task, .int .i64 e.job, .int .u8 (e.kind : Int), .int .i64 e.value, .int .i64 e.cycle, .int .i64 e.port] rfl rfl ?c1 ?c2 ?c3 ?c4 ?c5 ?_)
          case c1 => exact World.news_of_block (cs := #[.int .i64 e.slot, .int .i64 e.core, .int .i64 e.task, .int .i64 e.job, .int .u8 (e.kind : Int), .int .i64 e.value, .int .i64 e.cycle, .int .i64 e.port]) (blk_second w3 _ _ _ _)
          case c2 => intro u hu; simp at hu; rcases hu with rfl | rfl | rfl | rfl | rfl | rfl | rfl | rfl <;> rfl
          case c3 => unfold maxLen; omega
          case c4 => omega
          case c5 => have := HB3.out.size; simp; omega
          intro v' w6 hown6 hg6 _
          have hlt6 := ((HO3.out.alloc (.cells #[.int .i64 e.slot, .int .i64 e.core, .int .i64 e.task, .int .i64 e.job, .int .u8 (e.kind : Int), .int .i64 e.value, .int .i64 e.cycle, .int .i64 e.port] tEv)).alloc (.cells #[.int .i64 e.slot, .int .i64 e.core, .int .i64 e.task, .int .i64 e.job, .int .u8 (e.kind : Int), .int .i64 e.value, .int .i64 e.cycle, .int .i64 e.port] tEv)).lt
          have hB6 : Below w.heap.size w w6 := Below.grown (HB4.out.alloc HB4.out.size (.cells #[.int .i64 e.slot, .int .i64 e.core, .int .i64 e.task, .int .i64 e.job, .int .u8 (e.kind : Int), .int .i64 e.value, .int .i64 e.cycle, .int .i64 e.port] tEv)) hg6 (by have := HB3.out.size; simp; omega) (fun k hk => (hlt6 k hk).1)
          have HB6 := Lib.hid hB6
          have HR6 := Lib.hid (show w6.ownsRow w.heap.size tEv 8 v' (acc ++ [e]).length (evC (acc ++ [e])) from (by
            have h := hown6
            simpa [evC, evV] using h))
          clear hown6 hg6 hlt6 hB6
          go_wp2_with fail
          exact ⟨⟨f, n + 1, r, acc ++ [e], rfl, by simp, HR6.out, HB6.out, HRN2.out, by omega, by omega, by simp; omega⟩, by simp [intOf]; omega⟩
end
end Go.Proofs.YtpmbhdheeaejgaaGreatDoor
