/- The walk of AsmJoins. -/
import Derived.Test.YtgeagpplihecmaaDoorAsQ
import Derived.Deep.DeepMust
import Derived.Test.YtgeagpplihecmaaDoorPlainAsm4
namespace Go.Proofs.YtgeagpplihecmaaDoor
open Go.RowKit
open AS (Ins)
theorem fmt_if {l : List Ins} (hl : l.length ≤ 4096) : AS.fmt l = if l.all AS.valid then (AS.fmtL l, 0) else ([], 3) := by
  unfold AS.fmt
  rw [if_neg (by omega)]
section
set_option maxHeartbeats 2000000
set_option maxRecDepth 100000
theorem asmjoins_walk (A : Option Addr) (n c : Nat) (l : List Ins) (s : ByteArray) (w : World) (hF : FmtIs w) (hP : PowIs w) (hM : MaxIs w) (hN : l.length = n) (_hlm : n ≤ maxLen) (ho : ∀ i ∈ l, i.op ≤ 255) (hr : Row w A (insCells l)) (_hsm : s.size ≤ maxLen) :
    Calls Tryd.prog 8 #[.slice A n c, .string s] w fun e w' => e = .returned (.bool true) ∧ Below w.heap.size w w' := by
  have hnot : ∀ (x : Bool) (w : World), (Op.unary .not (.bool x)).run Tryd.prog w = .ok (.bool (!x)) w := fun _ _ => rfl
  have HN := Lib.hid hN
  have HF := Lib.hid hF
  have HP := Lib.hid hP
  have HM := Lib.hid hM
  have HA := Lib.hid (awake_any w hF hM hP)
  have HR := Lib.hid hr
  have HO := Lib.hid ho
  have hsl : s.data.toList.length = s.size := Array.length_toList
  clear hF hP hM hN hr ho
  by_cases hbig : 30 < n
  · have e1 : decide ((30 : Int) < (n : Int)) = true := by simp; omega
    go_enter Tryd.func8, Tryd.ntmps8
    go_wp2_with fail
    refine HA.out.mono ?_
    rintro e w1 ⟨rfl, hb1⟩
    go_wp2_with fail
    go_ret
    exact ⟨rfl, hb1⟩
  have e1 : decide ((30 : Int) < (n : Int)) = false := by simp; omega
  by_cases hbig2 : 300 < s.size
  · have e2 : decide ((300 : Int) < (s.size : Int)) = true := by simp; omega
    go_enter Tryd.func8, Tryd.ntmps8
    go_wp2_with fail
    refine HA.out.mono ?_
    rintro e w1 ⟨rfl, hb1⟩
    go_wp2_with fail
    go_ret
    exact ⟨rfl, hb1⟩
  have e2 : decide ((300 : Int) < (s.size : Int)) = false := by simp; omega
  go_enter Tryd.func8, Tryd.ntmps8
  go_wp2_with fail
  refine HA.out.mono ?_
  rintro e w1 ⟨rfl, hb1⟩
  have HB1 := Lib.hid hb1
  have hff := format_any l A n c w1 HN.out (by omega) (HR.out.below hb1) HO.out (HF.out.below hb1) (HP.out.below hb1)
  rw [fmt_if (by rw [HN.out]; omega)] at hff
  clear hb1 HA
  cases hv : l.all AS.valid with
  | false =>
    rw [hv] at hff
    have HFF := Lib.hid hff
    clear hff hv
    go_wp2_with fail
    refine HFF.out.mono ?_
    rintro e w2 ⟨rfl, hb2⟩
    have HB2 := Lib.hid (HB1.out.trans (hb2.mono HB1.out.size))
    clear hb2
    go_wp2_with fail
    go_ret
    exact ⟨rfl, HB2.out⟩
  | true =>
    rw [hv] at hff
    simp only [if_true] at hff
    have hfl := AS.fmt_len hv
    have hpj := AS.parse_join (s := s.data.toList) hv (by rw [HN.out]; omega) (by omega)
    have hcs := AS.parse_cases (s := s.data.toList) (by omega)
    obtain ⟨T, hT⟩ : ∃ T : ByteArray, T = ⟨(AS.fmtL l).toArray⟩ := ⟨_, rfl⟩
    have hTd : T.data.toList = AS.fmtL l := by rw [hT]
    have hTs : T.size ≤ 1020 := by
      have h1 : T.data.toList.length = T.size := Array.length_toList
      rw [hTd] at h1
      have := HN.out
      omega
    have hcd : (T ++ s).data.toList = AS.fmtL l ++ s.data.toList := by rw [← hTd]; simp [ByteArray.data_append]
    rw [← hcd] at hpj
    rw [← hT] at hff
    have HFF := Lib.hid hff
    have HPJ := Lib.hid hpj
    have HCS := Lib.hid hcs
    clear hff hv hT hTd hcd hpj hcs hfl
    go_wp2_with fail
    refine HFF.out.mono ?_
    rintro e w2 ⟨rfl, hb2⟩
    have HB2 := Lib.hid (HB1.out.trans (hb2.mono HB1.out.size))
    have HPA := Lib.hid (parse_any s w2 (by omega) (HF.out.below HB2.out) (HM.out.below HB2.out))
    clear hb2
    go_wp2_with fail
    refine HPA.out.mono ?_
    rintro e w3 ⟨A3, n3, c3, rfl, hn3, hr3, hb3⟩
    have HB3 := Lib.hid (HB2.out.trans (hb3.mono HB2.out.size))
    have HR3 := Lib.hid hr3
    have hp4 := parse_any (T ++ s) w3 (by rw [ByteArray.size_append]; omega) (HF.out.below HB3.out) (HM.out.below HB3.out)
    rw [HPJ.out] at hp4
    have HP4 := Lib.hid hp4
    have HN3 := Lib.hid hn3
    clear hb3 hr3 hp4 HPA hn3 HPJ
    generalize AS.parse s.data.toList = R at *
    obtain ⟨ms, at_, er⟩ := R
    by_cases he : er = 0
    · subst he
      have hms : ms.length = n3 ∧ ms.length ≤ 301 := by
        refine ⟨HN3.out.symm, ?_⟩
        rcases HCS.out with ⟨_, _, h3⟩ | ⟨h1, _⟩
        · simp only [] at h3; omega
        · simp only [] at h1; rw [h1]; simp
      have hp4 := HP4.out
      simp only [if_true] at hp4
      have HP5 := Lib.hid hp4
      have HMS := Lib.hid hms
      clear hp4 HP4 HN3 HCS hms
      go_wp2_with fail
      refine HP5.out.mono ?_
      rintro e w4 ⟨A4, n4, c4, rfl, hn4, hr4, hb4⟩
      have HB4 := Lib.hid (HB3.out.trans (hb4.mono HB3.out.size))
      have HR4 := Lib.hid (show Row w4 A4 (insCells (l ++ ms)) from hr4)
      have HR34 := Lib.hid (show Row w4 A3 (insCells ms) from HR3.out.below hb4)
      have HRl := Lib.hid (HR.out.below HB4.out)
      have hn4' : n4 = n + n3 := by rw [hn4]; simp; rw [HN.out, HMS.out.1]
      clear hn4 hb4 hr4 HP5
      subst hn4'
      have hq : n3 ≤ 301 := by have := HMS.out; omega
      have hO0 : (w4.alloc (.cells #[] 48)).ownsRow w4.heap.size 48 5 (.slice (some ⟨w4.heap.size, 0, none⟩) 0 0) 0 (insCells []) := World.ownsRow_lit (size := 5) w4 #[] 0 (Nat.le_refl _) (by decide) rfl
      have hA0 : Below w4.heap.size w4 (w4.alloc (.cells #[] 48)) := (Below.refl _ _).alloc (Nat.le_refl _) _
      have HO0 := Lib.hid hO0
      have HA0 := Lib.hid hA0
      clear hO0 hA0
      have tok := True.intro
      go_wp2_with (first
        | (at_builtin; have _t := tok; go_must (refine wpList_append_ins rfl _ _ rfl rfl HO0.out rfl (HRl.out.below HA0.out) (by simp) HN.out (by omega) ?_; intro v5 w5 hown5 hb5; clear tok _t))
        | (at_builtin; go_must (refine wpList_append_ins rfl _ _ rfl rfl hown5 rfl (HR34.out.below (HA0.out.trans hb5)) (Nat.le_trans HA0.out.size hb5.size) HMS.out.1 (by omega) ?_; intro v6 w6 hown6 hb6)))
      obtain ⟨A6, c6, rfl⟩ := own_form hown6
      have hR6 : Row w6 A6 (insCells (l ++ ms)) := by
        have := row_own hown6 (fun h => by
          rcases Nat.eq_zero_or_pos (0 + n + n3) with h0 | h0
          · have h1 := HMS.out.1
            have h2 := HN.out
            exact absurd (insCells_nil.2 (List.eq_nil_of_length_eq_zero (by rw [List.nil_append, List.length_append]; omega))) h
          · exact h0)
        simpa using this
      have HSA := Lib.hid (lsame_any (l ++ ms) A4 A6 (n + n3) c4 c6 w6 (by have h1 := HMS.out.1; have h2 := HN.out; rw [List.length_append]; omega) (by omega) (HR4.out.below ((HA0.out.trans hb5).trans (hb6.mono (Nat.le_refl _)))) hR6)
      rw [Nat.zero_add] at *
      have HB6 := Lib.hid (HB4.out.trans (((HA0.out.trans hb5).trans (hb6.mono (Nat.le_refl _))).mono HB4.out.size))
      refine HSA.out.mono ?_
      rintro e w7 ⟨rfl, hb7⟩
      have HB7 := Lib.hid (HB6.out.trans (hb7.mono HB6.out.size))
      clear hb7
      go_wp2_with fail
      go_ret
      exact ⟨rfl, HB7.out⟩
    · have hp4 := HP4.out
      rw [if_neg he] at hp4
      simp only [] at hp4
      obtain ⟨q, hq⟩ : ∃ q, q = at_ + l.length := ⟨_, rfl⟩
      rw [← hq] at hp4
      have e6 : ((q : Int) == (at_ : Int) + (n : Int)) = true := beq_iff_eq.2 (by have := HN.out; omega)
      have e7 : ((er : Int) == 0) = false := beq_eq_false_iff_ne.2 (by omega)
      have hat : at_ ≤ 301 := by
        rcases HCS.out with ⟨h1, _⟩ | ⟨_, _, h1, _⟩
        · simp only [Prod.mk.injEq] at h1; omega
        · simp only [] at h1; omega
      clear hq
      have HP5 := Lib.hid hp4
      have e4 : ((er : Int) != 0) = true := bne_iff_ne.2 (by omega)
      have e5 : ((er : Int) == (er : Int)) = true := beq_self_eq_true _
      clear hp4 HP4
      go_wp2_with fail
      refine HP5.out.mono ?_
      rintro e w4 ⟨A4, n4, c4, rfl, hn4, hr4, hb4⟩
      have hn4' : n4 = 0 := hn4
      subst hn4'
      have HB4 := Lib.hid (HB3.out.trans (hb4.mono HB3.out.size))
      clear hb4 hr4 HP5 hn4
      go_wp2_with fail
      go_ret
      exact ⟨rfl, HB4.out⟩
end
end Go.Proofs.YtgeagpplihecmaaDoor
