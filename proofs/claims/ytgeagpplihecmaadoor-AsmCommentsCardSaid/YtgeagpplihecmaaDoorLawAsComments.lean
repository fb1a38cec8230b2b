/- The walk of AsmComments. -/
import Derived.Test.YtgeagpplihecmaaDoorAsM
namespace Go.Proofs.YtgeagpplihecmaaDoor
open Go.RowKit
open AS (Ins)
def MoRel (s : ByteArray) (w : World) (o i : Value) (wr : World) : Prop :=
  ∃ (k : Nat) (S : ByteArray), k ≤ s.size ∧ o = .string S ∧ i = .int .i64 (k : Int) ∧ S.size ≤ 14 * k ∧ S.data.toList ++ AS.more (s.data.toList.drop k) = AS.more s.data.toList ∧ wr = w
section
set_option maxHeartbeats 2000000
set_option maxRecDepth 100000
theorem asmcomments_walk (s : ByteArray) (w : World) (hF : FmtIs w) (hP : PowIs w) (hM : MaxIs w) :
    Calls Tryd.prog 6 #[.string s] w fun e w' => e = .returned (.bool true) ∧ Below w.heap.size w w' := by
  have hnot : ∀ (x : Bool) (w : World), (Op.unary .not (.bool x)).run Tryd.prog w = .ok (.bool (!x)) w := fun _ _ => rfl
  have HF := Lib.hid hF
  have HM := Lib.hid hM
  have HA := Lib.hid (awake_any w hF hM hP)
  have hl : s.data.toList.length = s.size := Array.length_toList
  clear hF hP hM
  by_cases hbig : 400 < s.size
  · have e1 : decide ((400 : Int) < (s.size : Int)) = true := by simp; omega
    go_enter Tryd.func6, Tryd.ntmps6
    go_wp2_with fail
    refine HA.out.mono ?_
    rintro e w1 ⟨rfl, hb1⟩
    go_wp2_with fail
    go_ret
    exact ⟨rfl, hb1⟩
  have e1 : decide ((400 : Int) < (s.size : Int)) = false := by simp; omega
  go_enter Tryd.func6, Tryd.ntmps6
  go_wp2_with fail
  refine HA.out.mono ?_
  rintro e w1 ⟨rfl, hb1⟩
  have HB1 := Lib.hid hb1
  clear hb1 HA
  go_wp2_with fail
  go_loopw [3, 4] (fun o i wr => MoRel s w1 o i wr) (fun _ i _ => s.size - (intOf i).toNat)
  case atStart => exact ⟨0, ⟨#[]⟩, Nat.zero_le _, rfl, rfl, by decide, by simp, rfl⟩
  case round =>
    obtain ⟨k, S, hk, rfl, rfl, hS, hrel, rfl⟩ := hrel
    by_cases hlt : k < s.size
    · have q1 : (k : Int) < (s.size : Int) := by omega
      obtain ⟨x1, x2⟩ := ext_one s k hlt
      have hsk : ∀ h, s[k]'h = s.data.toList[k]'(by omega) := fun h => rfl
      have hdr : s.data.toList.drop k = s.data.toList[k]'(by omega) :: s.data.toList.drop (k + 1) := List.drop_eq_getElem_cons (by omega)
      rw [hdr, AS.more] at hrel
      generalize s.data.toList[k]'(by omega) = c at *
      have HRL := Lib.hid hrel
      clear hrel hdr
      by_cases h10 : c = 10
      · subst h10
        have hcd : ((S ++ ⟨#[32, 59, 32, 115, 116, 32, 114, 49, 32, 114, 50, 32, 51]⟩) ++ s.extract k (k + 1)).data.toList = S.data.toList ++ [32, 59, 32, 115, 116, 32, 114, 49, 32, 114, 50, 32, 51, 10] := by
          simp only [ByteArray.data_append, Array.toList_append]
          rw [x1]; simp
        have hcs : ((S ++ ⟨#[32, 59, 32, 115, 116, 32, 114, 49, 32, 114, 50, 32, 51]⟩) ++ s.extract k (k + 1)).size = S.size + 14 := by rw [ByteArray.size_append, ByteArray.size_append, x2]; rfl
        have HCD := Lib.hid hcd
        have HCS := Lib.hid hcs
        clear hcd hcs
        go_wp2_with fail
        refine ⟨⟨k + 1, _, by omega, rfl, by simp, by rw [HCS.out]; omega, ?_, rfl⟩, by simp [intOf]; omega⟩
        have := HRL.out
        rw [HCD.out, List.append_assoc]
        simpa using this
      · have b10 : ((c.toNat : Int) == 10) = false := by
          refine beq_eq_false_iff_ne.2 (fun h => h10 (UInt8.toNat.inj ?_)); show c.toNat = 10; omega
        have hcd : (S ++ s.extract k (k + 1)).data.toList = S.data.toList ++ [c] := by rw [← x1]; simp
        have hcs : (S ++ s.extract k (k + 1)).size = S.size + 1 := by rw [ByteArray.size_append, x2]
        have HCD := Lib.hid hcd
        have HCS := Lib.hid hcs
        clear hcd hcs
        go_wp2_with fail
        refine ⟨⟨k + 1, _, by omega, rfl, by simp, by rw [HCS.out]; omega, ?_, rfl⟩, by simp [intOf]; omega⟩
        have := HRL.out
        rw [HCD.out, List.append_assoc]
        simpa [h10] using this
    · have hkk : k = s.size := by omega
      have q1 : ¬ (k : Int) < (s.size : Int) := by omega
      have hf : S.data.toList = AS.more s.data.toList := by
        rw [← hrel, List.drop_eq_nil_of_le (by omega), AS.more, List.append_nil]
      have hSl : S.data.toList.length = S.size := Array.length_toList
      have HPA := Lib.hid (parse_any s wr (by omega) (HF.out.below HB1.out) (HM.out.below HB1.out))
      have hpm := AS.parse_more (s := s.data.toList) (by omega)
      rw [← hf] at hpm
      have HPM := Lib.hid hpm
      clear hrel hf hpm
      go_wp2_with fail
      refine HPA.out.mono ?_
      rintro e w2 ⟨A2, n2, c2, rfl, hn2, hr2, hb2⟩
      have HB2 := Lib.hid (HB1.out.trans (hb2.mono HB1.out.size))
      have HR2 := Lib.hid hr2
      have HPL := Lib.hid (plainer_any s w2 (by omega))
      clear hb2 hr2 HPA
      go_wp2_with fail
      refine HPL.out.mono ?_
      rintro e w3 ⟨⟨T, rfl, hT, hTs⟩, rfl⟩
      have hpp := AS.parse_plainer (s := s.data.toList) (by omega) (by have := AS.plainer_len s.data.toList false; omega)
      rw [← hT] at hpp
      have hp3 := parse_any T w3 (by omega) (HF.out.below HB2.out) (HM.out.below HB2.out)
      rw [hpp] at hp3
      have HP3 := Lib.hid hp3
      clear hpp hp3 HPL hT
      go_wp2_with fail
      refine HP3.out.mono ?_
      rintro e w4 ⟨A4, n4, c4, rfl, hn4, hr4, hb4⟩
      have HB4 := Lib.hid (HB2.out.trans (hb4.mono HB2.out.size))
      have HR24 := Lib.hid (HR2.out.below hb4)
      have HR4 := Lib.hid hr4
      have hp5 := parse_any S w4 (by omega) (HF.out.below HB4.out) (HM.out.below HB4.out)
      rw [HPM.out] at hp5
      have HP5 := Lib.hid hp5
      clear hb4 hr4 hp5 HP3
      go_wp2_with fail
      refine HP5.out.mono ?_
      rintro e w6 ⟨A6, n6, c6, rfl, hn6, hr6, hb6⟩
      have HB6 := Lib.hid (HB4.out.trans (hb6.mono HB4.out.size))
      have hln : (AS.parse s.data.toList).1.length ≤ 100000 := by
        rcases AS.parse_cases (s := s.data.toList) (by omega) with ⟨_, _, h3⟩ | ⟨h1, _⟩
        · omega
        · rw [h1]; simp
      generalize AS.parse s.data.toList = R at *
      obtain ⟨l, at_, er⟩ := R
      simp only [] at hn2 hn4 hn6 hln
      subst hn2 hn4 hn6
      have f1 : ((er : Int) == (er : Int)) = true := by simp
      have f2 : ((at_ : Int) == (at_ : Int)) = true := by simp
      have HS1 := Lib.hid (lsame_any l A2 A4 l.length c2 c4 w6 rfl (by omega) (HR24.out.below hb6) (HR4.out.below hb6))
      have HR26 := Lib.hid (show Row w6 A2 (insCells l) from HR24.out.below hb6)
      have HR6 := Lib.hid (show Row w6 A6 (insCells l) from hr6)
      clear hb6 hr6 HP5
      go_wp2_with fail
      refine HS1.out.mono ?_
      rintro e w7 ⟨rfl, hb7⟩
      have HB7 := Lib.hid (HB6.out.trans (hb7.mono HB6.out.size))
      have HS2 := Lib.hid (lsame_any l A2 A6 l.length c2 c6 w7 rfl (by omega) (HR26.out.below hb7) (HR6.out.below hb7))
      clear hb7 HS1
      go_wp2_with fail
      refine HS2.out.mono ?_
      rintro e w8 ⟨rfl, hb8⟩
      have HB8 := Lib.hid (HB7.out.trans (hb8.mono HB7.out.size))
      clear hb8
      go_wp2_with fail
      go_ret
      exact ⟨rfl, HB8.out⟩
end
end Go.Proofs.YtgeagpplihecmaaDoor
