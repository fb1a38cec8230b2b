/- LexerTokens: the tokens of any text, or the offset and the error, are those of the reference. -/
import Derived.Test.YtgacfcdpgcpjeaaDoorLexD
import Derived.Test.YtgacfcdpgcpjeaaDoorRefC
import Derived.Test.YtgacfcdpgcpjeaaDoorJoin
namespace Go.Proofs.YtgacfcdpgcpjeaaDoor
open Go.RowKit

section
set_option maxHeartbeats 400000
set_option maxRecDepth 100000
theorem same_eq (A1 A2 : Option Addr) (n c1 c2 : Nat) (rs : List RT) (w : World) (hN : rs.length = n) (h1 : RToks w A1 rs) (h2 : RToks w A2 rs) (_hn : n ≤ 9223372036854775806) :
    Calls Tryd.prog 15 #[.slice A1 n c1, .slice A2 n c2] w fun e w' => e = .returned (.bool true) ∧ Below w.heap.size w w' := by
  have HN := Lib.hid hN
  clear hN
  go_enter Tryd.func15, Tryd.ntmps15
  go_wp2_with fail
  go_loopw [13] (fun i wr => ∃ k : Nat, k ≤ n ∧ i = .int .i64 k ∧ Below w.heap.size w wr) (fun i _ => n - (intOf i).toNat)
  case atStart => exact ⟨0, Nat.zero_le _, rfl, Below.refl _ _⟩
  case round =>
    obtain ⟨k, hk, rfl, hbr⟩ := hrel
    by_cases hlt : k < n
    · obtain ⟨r, hr⟩ : ∃ r, rs[k]? = some r := ⟨_, List.getElem?_eq_getElem (by rw [HN.out]; exact hlt)⟩
      have hne : rs ≠ [] := by rintro rfl; have := HN.out; simp at this; omega
      obtain ⟨b1, o1, rfl, hb1, hc1⟩ := (h1.below hbr) hne
      obtain ⟨b2, o2, rfl, hb2, hc2⟩ := (h2.below hbr) hne
      obtain ⟨x0, x1, x2⟩ := hc1 k r hr
      obtain ⟨y0, y1, y2⟩ := hc2 k r hr
      have q1 : (0 : Int) ≤ (k : Int) := by omega
      have q2 : (k : Int) < (n : Int) := by omega
      clear hc1 hc2 hne hr h1 h2
      go_wp2_with fail
      go_quiet (fail)
      go_wp2_with fail
      go_roundw
      case rel => exact ⟨k + 1, by omega, by go_num, below_drewN hbr _⟩
      case measure => simp [intOf]; omega
    · go_wp2_with fail
      go_ret
      exact ⟨rfl, hbr⟩
theorem tokens_walk (s : ByteArray) (w : World) (hg : SignsIs w) (_hs : s.size ≤ maxLen) :
    Calls Tryd.prog 3 #[.string s] w fun e w' => e = .returned (.bool true) ∧ Below w.heap.size w w' := by
  by_cases hx : s.size ≤ 150
  · obtain ⟨ts, at_, er, hL⟩ : ∃ ts a e, PL.lex s.data.toList = (ts, a, e) := ⟨_, _, _, rfl⟩
    have hct : ts.length ≤ 65536 := by
      by_cases he : er = 0
      · subst he
        have := PL.lex_count hL
        rw [show s.data.toList.length = s.size from Array.length_toList] at this
        omega
      · obtain ⟨rfl, _, _⟩ := PL.lex_error hL he (by rw [show s.data.toList.length = s.size from Array.length_toList]; omega)
        simp
    have HL := Lib.hid hL
    clear hL
    go_enter Tryd.func3, Tryd.ntmps3
    go_wp2_with fail
    refine (awake_any _ hg).mono ?_
    rintro e w1 ⟨rfl, hb1⟩
    go_wp2_with fail
    have h2 := lex_any s w1 (hg.below hb1 hg.pos) (by unfold maxLen; omega)
    unfold LexEnd at h2
    rw [HL.out] at h2
    refine h2.mono ?_
    clear h2
    rintro e w2 ⟨v2, rfl, ho2, hb2⟩
    have hB2 := hb1.trans (hb2.mono hb1.size)
    go_wp2_with fail
    have h3 := rlex_any s w2 (by omega)
    unfold RefLexEnd at h3
    rw [HL.out] at h3
    refine h3.mono ?_
    clear h3
    rintro e w3 ⟨v3, rfl, ho3, hb3⟩
    have hB3 := hB2.trans (hb3.mono hB2.size)
    have ho2 := own_below ho2 hb3
    obtain ⟨A2, c2, rfl⟩ := own_form ho2
    obtain ⟨A3, c3, rfl⟩ := own_form ho3
    rw [toksCells_eq] at ho2 ho3
    have hr2 : RToks w3 A2 (ts.map rtOf) := RToks.of_own (base := w1.heap.size) (e := 33) (c := c2) (by rw [List.length_map]; exact ho2)
    have hr3 : RToks w3 A3 (ts.map rtOf) := RToks.of_own (base := w2.heap.size) (e := 48) (c := c3) (by rw [List.length_map]; exact ho3)
    clear ho2 ho3
    generalize hn : ts.length = n at *
    have HN := Lib.hid hn
    clear hn
    go_wp2_with fail
    refine (same_eq A2 A3 n c2 c3 (ts.map rtOf) w3 (by rw [List.length_map]; exact HN.out) hr2 hr3 (by omega)).mono ?_
    rintro e w4 ⟨rfl, hb4⟩
    go_wp2_with fail
    go_ret
    exact ⟨rfl, hB3.trans (hb4.mono hB3.size)⟩
  · go_enter Tryd.func3, Tryd.ntmps3
    go_wp2_with fail
    refine (awake_any _ hg).mono ?_
    rintro e w2 ⟨rfl, hb2⟩
    go_wp2_with fail
    refine (awake_any _ (hg.below hb2 hg.pos)).mono ?_
    rintro e w3 ⟨rfl, hb3⟩
    go_wp2_with fail
    go_ret
    exact ⟨rfl, hb2.trans (hb3.mono hb2.size)⟩
end
end Go.Proofs.YtgacfcdpgcpjeaaDoor
