/- The contracts of the laws' own valid, of the reference's Same at equal code, and of awake. -/
import Derived.Test.YtgeagpplihecmaaDoorAsK
namespace Go.Proofs.YtgeagpplihecmaaDoor
open Go.RowKit
open AS (Ins)
def vN (l : List Ins) : Int := if l.all AS.valid then 1 else 0
section
set_option maxHeartbeats 1000000
set_option maxRecDepth 100000
theorem lvalid_any (l : List Ins) (A : Option Addr) (n c : Nat) (w : World) (hN : l.length = n) (hn : n ≤ 1000000) (hr : Row w A (insCells l)) (ho : ∀ i ∈ l, i.op ≤ 255) (hF : FmtIs w) :
    Calls Tryd.prog 14 #[.slice A n c] w fun e w' => e = .returned (.int .i64 (vN l)) ∧ Below w.heap.size w w' := by
  have hnot : ∀ (x : Bool) (w : World), (Op.unary .not (.bool x)).run Tryd.prog w = .ok (.bool (!x)) w := fun _ _ => rfl
  have HN := Lib.hid hN
  have HR := Lib.hid hr
  have HO := Lib.hid ho
  have HF := Lib.hid hF
  clear hN hr ho hF
  go_enter Tryd.func14, Tryd.ntmps14
  go_wp2_with fail
  go_loopw [3] (fun i wr => ∃ k : Nat, k ≤ n ∧ i = .int .i64 (k : Int) ∧ (l.take k).all AS.valid = true ∧ Below w.heap.size w wr) (fun i _ => n - (intOf i).toNat)
  case atStart => exact ⟨0, Nat.zero_le _, rfl, by simp, Below.refl _ _⟩
  case round =>
    obtain ⟨k, hk, rfl, hall, hbw⟩ := hrel
    have HB := Lib.hid hbw
    have HALL := Lib.hid hall
    clear hall
    by_cases hlt : k < n
    · have hlt' : k < l.length := by rw [HN.out]; exact hlt
      obtain ⟨i, hi⟩ : ∃ i, l[k]? = some i := ⟨_, List.getElem?_eq_getElem hlt'⟩
      obtain ⟨rb, ro, rfl, hrb, c0, c1, c2, c3, c4⟩ := (HR.out.below hbw).ins hi
      have hop := HO.out i (List.mem_of_getElem? hi)
      have HVA := Lib.hid (show Calls Tryd.prog 24 #[.agg #[.int .u8 (i.op : Int), .int .i64 i.a, .int .i64 i.b, .int .i64 i.c, .int .i64 i.imm]] wr _ from valid_any i hop wr (HF.out.below hbw))
      have q0 : (k : Int) < (n : Int) := by omega
      have HI := Lib.hid hi
      clear hbw hrb
      cases hv : AS.valid i with
      | false =>
        rw [hv] at HVA
        have hR : vN l = 0 := by
          unfold vN
          rw [if_neg]
          intro h
          have := List.all_eq_true.1 h i (List.mem_of_getElem? hi)
          rw [hv] at this; cases this
        have HRR := Lib.hid hR
        clear hR hv hi
        go_wp2_with fail
        refine HVA.out.mono ?_
        rintro e w2 ⟨rfl, hb2⟩
        have HB2 := Lib.hid (HB.out.trans (hb2.mono HB.out.size))
        clear hb2
        go_wp2_with fail
        go_ret
        rw [HRR.out]
        exact ⟨rfl, HB2.out⟩
      | true =>
        rw [hv] at HVA
        have HV := Lib.hid hv
        clear hv hi
        go_wp2_with fail
        refine HVA.out.mono ?_
        rintro e w2 ⟨rfl, hb2⟩
        have HB2 := Lib.hid (HB.out.trans (hb2.mono HB.out.size))
        clear hb2
        go_wp2_with fail
        refine ⟨⟨k + 1, by omega, by simp, ?_, HB2.out⟩, by simp [intOf]; omega⟩
        obtain ⟨hkl, hie⟩ := List.getElem?_eq_some_iff.1 HI.out
        rw [List.take_succ_eq_append_getElem hkl, List.all_append, HALL.out, hie]
        simp [HV.out]
    · have q1 : ¬ (k : Int) < (n : Int) := by omega
      have hall : l.all AS.valid = true := by
        have := HALL.out
        rwa [show k = l.length from by rw [HN.out]; omega, List.take_length] at this
      have HRR := Lib.hid (show vN l = 1 by unfold vN; rw [if_pos hall])
      clear hall
      go_wp2_with fail
      go_ret
      rw [HRR.out]
      exact ⟨rfl, HB.out⟩
theorem lsame_any (l : List Ins) (A A' : Option Addr) (n c c' : Nat) (w : World) (hN : l.length = n) (hn : n ≤ 1000000) (hr : Row w A (insCells l)) (hr' : Row w A' (insCells l)) :
    Calls Tryd.prog 18 #[.slice A n c, .slice A' n c'] w fun e w' => e = .returned (.bool true) ∧ Below w.heap.size w w' := by
  have HN := Lib.hid hN
  have HR := Lib.hid hr
  have HR' := Lib.hid hr'
  have e0 : ((n : Int) != (n : Int)) = false := by simp
  clear hN hr hr'
  go_enter Tryd.func18, Tryd.ntmps18
  go_wp2_with fail
  go_loopw [5] (fun i wr => ∃ k : Nat, k ≤ n ∧ i = .int .i64 (k : Int) ∧ Below w.heap.size w wr) (fun i _ => n - (intOf i).toNat)
  case atStart => exact ⟨0, Nat.zero_le _, rfl, Below.refl _ _⟩
  case round =>
    obtain ⟨k, hk, rfl, hbw⟩ := hrel
    have HB := Lib.hid hbw
    by_cases hlt : k < n
    · have hlt' : k < l.length := by rw [HN.out]; exact hlt
      obtain ⟨i, hi⟩ : ∃ i, l[k]? = some i := ⟨_, List.getElem?_eq_getElem hlt'⟩
      obtain ⟨rb, ro, rfl, hrb, c0, c1, c2, c3, c4⟩ := (HR.out.below hbw).ins hi
      obtain ⟨rb', ro', rfl, hrb', d0, d1, d2, d3, d4⟩ := (HR'.out.below hbw).ins hi
      have q0 : (k : Int) < (n : Int) := by omega
      clear hbw hrb hrb'
      go_wp2_with fail
      go_region
      all_goals
        go_wp2_with fail
        exact ⟨⟨k + 1, by omega, by simp, HB.out.drew⟩, by simp [intOf]; omega⟩
    · have q1 : ¬ (k : Int) < (n : Int) := by omega
      go_wp2_with fail
      go_ret
      exact ⟨rfl, HB.out⟩
/-- The example's code. -/
def exIns : Ins := ⟨15, 2, 3, 0, -1⟩
def exLd : Ins := ⟨18, 1, 2, 0, 4⟩
theorem ex_fmt : AS.fmt [exIns] = ([97, 100, 100, 105, 32, 114, 50, 32, 114, 51, 32, 45, 49, 10], 0) := by decide +kernel
theorem ex_parse : AS.parse [32, 32, 108, 100, 32, 32, 114, 49, 32, 114, 50, 32, 52, 32, 59, 32, 101, 108, 101, 109, 101, 110, 116] = ([exLd], 0, 0) := by decide +kernel
theorem awake_any (w : World) (hF : FmtIs w) (hM : MaxIs w) (hP : PowIs w) : Calls Tryd.prog 12 #[] w fun e w' => e = .returned (.bool true) ∧ Below w.heap.size w w' := by
  have hb0 : Below w.heap.size w (w.alloc (.cells #[.int .u8 15, .int .i64 2, .int .i64 3, .int .i64 0, .int .i64 (-1)] 48)) := (Below.refl _ _).alloc (Nat.le_refl _) _
  have hrow : Row (w.alloc (.cells #[.int .u8 15, .int .i64 2, .int .i64 3, .int .i64 0, .int .i64 (-1)] 48)) (some ⟨w.heap.size, 0, none⟩) (insCells [exIns]) := fun _ => by
    refine ⟨w.heap.size, 0, rfl, by simp, fun i v hi => ?_⟩
    rw [(Blk.new w 48 #[.int .u8 15, .int .i64 2, .int .i64 3, .int .i64 0, .int .i64 (-1)]).cell, Nat.zero_add, ← hi]
    exact List.getElem?_toArray
  have hff := format_any [exIns] (some ⟨w.heap.size, 0, none⟩) 1 1 _ rfl (by decide) hrow (by intro i hi; simp at hi; subst hi; decide) (hF.below hb0) (hP.below hb0)
  rw [ex_fmt] at hff
  have HFF := Lib.hid hff
  have HB0 := Lib.hid hb0
  have HF := Lib.hid hF
  have HM := Lib.hid hM
  clear hff hb0 hrow hF hM hP
  go_enter Tryd.func12, Tryd.ntmps12
  go_wp2_with fail
  refine HFF.out.mono ?_
  rintro e w2 ⟨rfl, hb2⟩
  have HB2 := Lib.hid (HB0.out.trans (hb2.mono HB0.out.size))
  have hpp := parse_any ⟨#[32, 32, 108, 100, 32, 32, 114, 49, 32, 114, 50, 32, 52, 32, 59, 32, 101, 108, 101, 109, 101, 110, 116]⟩ w2 (by decide) (HF.out.below HB2.out) (HM.out.below HB2.out)
  rw [show (⟨#[32, 32, 108, 100, 32, 32, 114, 49, 32, 114, 50, 32, 52, 32, 59, 32, 101, 108, 101, 109, 101, 110, 116]⟩ : ByteArray).data.toList = [32, 32, 108, 100, 32, 32, 114, 49, 32, 114, 50, 32, 52, 32, 59, 32, 101, 108, 101, 109, 101, 110, 116] from rfl, ex_parse] at hpp
  have HPP := Lib.hid hpp
  clear hpp hb2
  go_wp2_with fail
  refine HPP.out.mono ?_
  rintro e w3 ⟨A, n, c, rfl, rfl, hr3, hb3⟩
  obtain ⟨rb, ro, rfl, hrb, c0, c1, c2, c3, c4⟩ := hr3.ins (k := 0) (i := exLd) rfl
  have HB3 := Lib.hid (HB2.out.trans (hb3.mono HB2.out.size))
  have d0 : w3.cell? ⟨rb, ro, none⟩ = some (.int .u8 18) := c0
  have d1 : w3.cell? ⟨rb, ro + 1, none⟩ = some (.int .i64 1) := c1
  have d2 : w3.cell? ⟨rb, ro + 2, none⟩ = some (.int .i64 2) := c2
  have d3 : w3.cell? ⟨rb, ro + 3, none⟩ = some (.int .i64 0) := c3
  have d4 : w3.cell? ⟨rb, ro + 4, none⟩ = some (.int .i64 4) := c4
  clear hr3 hb3 hrb c0 c1 c2 c3 c4
  go_wp2_with fail
  go_ret
  exact ⟨rfl, HB3.out⟩
end
end Go.Proofs.YtgeagpplihecmaaDoor
