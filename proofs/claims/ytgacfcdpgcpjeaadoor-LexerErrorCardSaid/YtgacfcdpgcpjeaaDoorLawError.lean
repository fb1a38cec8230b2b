/- LexerError: the bytes before the offset of an error are tokens, and no token starts there. -/
import Derived.Test.YtgacfcdpgcpjeaaDoorLawJoins
import Derived.Test.YtgacfcdpgcpjeaaDoorPlainLex3
import Derived.Deep.RegionHeld3
namespace Go.Proofs.YtgacfcdpgcpjeaaDoor
open Go.RowKit

theorem take_bytes (s : ByteArray) (k : Nat) : (s.extract 0 k).data.toList = s.data.toList.take k := by rw [Lib.extract_data]; simp

set_option maxRecDepth 100000 in
set_option maxHeartbeats 400000 in
theorem error_walk (s : ByteArray) (w : World) (hg : SignsIs w) (hs : s.size ≤ maxLen) :
    Calls Tryd.prog 9 #[.string s] w fun e w' => e = .returned (.bool true) ∧ Below w.heap.size w w' := by
  have hsl : s.data.toList.length = s.size := Array.length_toList
  have h1 := lex_any s w hg hs
  unfold LexEnd at h1
  obtain ⟨ts, at_, er, hL⟩ : ∃ ts a e, PL.lex s.data.toList = (ts, a, e) := ⟨_, _, _, rfl⟩
  rw [hL] at h1
  simp only [] at h1
  have H1 := Lib.hid h1
  have HL := Lib.hid hL
  have HSL := Lib.hid hsl
  clear h1 hL hsl
  unfold maxLen at hs
  by_cases hx : 600 < s.size ∨ er = 0
  · rcases (show 600 < s.size ∨ (s.size ≤ 600 ∧ er = 0) from by omega) with h | ⟨h, rfl⟩
    all_goals
      go_enter Tryd.func9, Tryd.ntmps9
      go_wp2_with fail
      refine H1.out.mono ?_
      rintro e w1 ⟨v1, rfl, hown1, hb1⟩
      go_wp2_with fail
      refine (awake_any _ (hg.below hb1 hg.pos)).mono ?_
      rintro e w2 ⟨rfl, hb2⟩
      have hb12 := hb1.trans (hb2.mono hb1.size)
      go_wp2_with fail
      refine (awake_any _ (hg.below hb12 hg.pos)).mono ?_
      rintro e w3 ⟨rfl, hb3⟩
      go_wp2_with fail
      go_ret
      exact ⟨rfl, hb12.trans (hb3.mono hb12.size)⟩
  · have hx1 : s.size ≤ 600 := by omega
    have hx2 : er ≠ 0 := by omega
    have hat := PL.error_at HL.out hx2 (by rw [HSL.out]; omega)
    obtain ⟨us, hu1, hu2, hu3⟩ := PL.error_law HL.out hx2 (by rw [HSL.out]; omega)
    obtain ⟨rfl, rfl, _⟩ := PL.lex_error HL.out hx2 (by rw [HSL.out]; omega)
    rw [HSL.out] at hat
    have HU1 := Lib.hid hu1
    have HU2 := Lib.hid hu2
    have HU3 := Lib.hid hu3
    clear hu1 hu2 hu3 hx hx2
    go_enter Tryd.func9, Tryd.ntmps9
    go_wp2_with fail
    refine H1.out.mono ?_
    rintro e w1 ⟨v1, rfl, hown1, hb1⟩
    clear hown1
    go_wp2_with fail
    refine (awake_any _ (hg.below hb1 hg.pos)).mono ?_
    rintro e w2 ⟨rfl, hb2⟩
    have hb12 := hb1.trans (hb2.mono hb1.size)
    clear hb1 hb2
    go_wp2_with fail
    have h3 := lex_any (s.extract 0 at_) w2 (hg.below hb12 hg.pos) (by simp [maxLen]; omega)
    unfold LexEnd at h3
    rw [take_bytes, HU1.out] at h3
    simp only [] at h3
    refine h3.mono ?_
    clear h3
    rintro e w3 ⟨v3, rfl, hown3, hb3⟩
    obtain ⟨A, cap, rfl⟩ := own_form hown3
    have hct := PL.lex_count HU1.out
    rw [List.length_take, HSL.out] at hct
    rw [toksCells_eq] at hown3
    have hrt : RToks w3 A (us.map rtOf) := RToks.of_own (base := w2.heap.size) (e := 33) (c := cap) (by rw [List.length_map]; exact hown3)
    have hb23 := hb12.trans (hb3.mono hb12.size)
    clear hown3 hb3
    generalize hn : us.length = n at *
    have HN := Lib.hid hn
    clear hn
    go_wp2_with fail
    have h4 := lex_any (s.extract at_ s.size) w3 (hg.below hb23 hg.pos) (by simp [maxLen]; omega)
    unfold LexEnd at h4
    rw [drop_bytes, HU3.out] at h4
    simp only [] at h4
    refine h4.mono ?_
    clear h4
    rintro e w4 ⟨v4, rfl, hown4, hb4⟩
    have hb34 := hb23.trans (hb4.mono hb23.size)
    have hrt4 := hrt.below hb4
    clear hown4 hb4 hrt
    have hj : joinText (us.map rtOf) = s.data.toList.take at_ := by rw [joinText_rt, HU2.out]
    have hjl : (joinText (us.map rtOf)).length ≤ 140737488355328 := by rw [hj, List.length_take, HSL.out]; omega
    have HJ := Lib.hid hj
    clear hj
    have HR4 := Lib.hid hrt4
    have HJL := Lib.hid hjl
    clear hrt4 hjl
    have hcon : ∀ W : World, Below w4.heap.size w4 W → Calls Tryd.prog 22 #[.slice A n cap] W fun e w' => e = .returned (.string (s.extract 0 at_)) ∧ Below W.heap.size W w' := fun W hW => by
      have h := join_any A n cap (us.map rtOf) W (by rw [List.length_map]; exact HN.out) (HR4.out.below hW) (by omega) HJL.out
      rw [HJ.out, show (⟨(s.data.toList.take at_).toArray⟩ : ByteArray) = s.extract 0 at_ from bytes_ext (by rw [take_bytes])] at h
      exact h
    have HCON := Lib.hid hcon
    clear hcon HJ HJL HR4 HU1 HU2 HU3 HL H1 HSL hct
    go_wp2_with fail
    have q1 : (0 : Int) ≤ (at_ : Int) := by omega
    have q2 : (at_ : Int) ≤ (s.size : Int) := by omega
    go_region_held3 (fun _ => True) (exact trivial) (first | (go_at_call 22; refine (HCON.out _ ?_).mono ?_; (first | exact (Below.refl _ _).drew | exact below_drewN (Below.refl _ _) _ | exact Below.refl _ _); rintro e w5 ⟨rfl, hb5⟩))
    all_goals go_wp2_with fail
    all_goals go_ret
    all_goals exact ⟨rfl, hb34.drew.trans (hb5.mono hb34.size)⟩
end Go.Proofs.YtgacfcdpgcpjeaaDoor
