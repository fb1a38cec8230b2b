/- LexerJoins: joining the tokens of a text yields the text. -/
import Derived.Test.YtgacfcdpgcpjeaaDoorLexD
import Derived.Test.YtgacfcdpgcpjeaaDoorPlainLex2
import Derived.Test.YtgacfcdpgcpjeaaDoorJoin
namespace Go.Proofs.YtgacfcdpgcpjeaaDoor
open Go.RowKit

theorem joinText_rt (ts : List PL.Tok) : joinText (ts.map rtOf) = ts.flatMap PL.Tok.text := by
  unfold joinText
  rw [List.flatMap_map]
  rfl

set_option maxRecDepth 100000 in
set_option maxHeartbeats 400000 in
theorem joins_walk (s : ByteArray) (w : World) (hg : SignsIs w) (hs : s.size ≤ maxLen) :
    Calls Tryd.prog 8 #[.string s] w fun e w' => e = .returned (.bool true) ∧ Below w.heap.size w w' := by
  have hsl : s.data.toList.length = s.size := Array.length_toList
  by_cases hx : 600 < s.size
  · go_enter Tryd.func8, Tryd.ntmps8
    go_wp2_with fail
    refine (awake_any _ hg).mono ?_
    rintro e w2 ⟨rfl, hb2⟩
    go_wp2_with fail
    refine (awake_any _ (hg.below hb2 hg.pos)).mono ?_
    rintro e w3 ⟨rfl, hb3⟩
    go_wp2_with fail
    go_ret
    exact ⟨rfl, hb2.trans (hb3.mono hb2.size)⟩
  · obtain ⟨ts, at_, er, hL⟩ : ∃ ts a e, PL.lex s.data.toList = (ts, a, e) := ⟨_, _, _, rfl⟩
    have HL := Lib.hid hL
    have HSL := Lib.hid hsl
    clear hL hsl
    by_cases he : er = 0
    · subst he
      obtain ⟨rfl, hj1, hj2⟩ := PL.joins HL.out
      have hjl : (ts.flatMap PL.Tok.text).length = s.size := by rw [hj1, HSL.out]
      have HJ1 := Lib.hid hj1
      have HJ2 := Lib.hid hj2
      have HJL := Lib.hid hjl
      clear hj1 hj2 hjl
      go_enter Tryd.func8, Tryd.ntmps8
      go_wp2_with fail
      refine (awake_any _ hg).mono ?_
      rintro e w2 ⟨rfl, hb2⟩
      go_wp2_with fail
      have h1 := lex_any s w2 (hg.below hb2 hg.pos) hs
      unfold LexEnd at h1
      rw [HL.out] at h1
      simp only [] at h1
      refine h1.mono ?_
      clear h1
      rintro e w3 ⟨v3, rfl, hown3, hb3⟩
      have hb23 := hb2.trans (hb3.mono hb2.size)
      obtain ⟨A, cap, rfl⟩ := own_form hown3
      have hct := PL.lex_count HL.out
      rw [HSL.out] at hct
      rw [toksCells_eq] at hown3
      have hrt : RToks w3 A (ts.map rtOf) := RToks.of_own (base := w2.heap.size) (e := 33) (c := cap) (by rw [List.length_map]; exact hown3)
      clear hown3
      generalize hn : ts.length = n at *
      have HN := Lib.hid hn
      clear hn
      go_wp2_with fail
      go_loopw [6, 40] (fun x i wr => ∃ k : Nat, k ≤ n ∧ i = .int .i64 k ∧ x = .int .i64 ((((ts.take k).flatMap PL.Tok.text).length : Nat) : Int) ∧ Below w3.heap.size w3 wr) (fun _ i _ => n - (intOf i).toNat)
      case atStart => exact ⟨0, Nat.zero_le _, rfl, rfl, Below.refl _ _⟩
      case round =>
        obtain ⟨k, hk, rfl, rfl, hbr⟩ := hrel
        have hszr := hbr.size
        by_cases hlt : k < n
        · obtain ⟨t, ht⟩ : ∃ t, ts[k]? = some t := ⟨_, List.getElem?_eq_getElem (by rw [HN.out]; exact hlt)⟩
          obtain ⟨b, o, rfl, hb, hc⟩ := (hrt.below hbr) (by rintro h; have := HN.out; simp at h; rw [h] at this; simp at this; omega)
          obtain ⟨c0, c1, c2⟩ := hc k (rtOf t) (by simp [ht])
          obtain ⟨hp, hne⟩ := HJ2.out k t ht
          have hsu := PL.flatMap_take_succ ts k t ht
          have hle := PL.flatMap_take_le ts (k + 1)
          rw [hsu, List.length_append, HJL.out] at hle
          have HSU := Lib.hid hsu
          simp only [rtOf] at c0 c1 c2
          rw [hp] at c2
          generalize hq : ((ts.take k).flatMap PL.Tok.text).length = q at *
          have HQ := Lib.hid hq
          have hemp : t.text.isEmpty = false := by simpa using hne
          clear hsu hq hc hp hne ht
          go_wp2_with fail
          go_roundw
          case rel => exact ⟨k + 1, by omega, by go_num, by rw [HSU.out, List.length_append, HQ.out]; rfl, hbr.alloc hszr _⟩
          case measure => simp [intOf]; omega
        · go_wp2_with fail
          refine (join_any A n cap (ts.map rtOf) wr (by rw [List.length_map]; exact HN.out) (hrt.below hbr) (by omega) (by rw [joinText_rt, HJL.out]; omega)).mono ?_
          rintro e w4 ⟨rfl, hb4⟩
          rw [joinText_rt, HJ1.out]
          have hb34 := hb23.trans ((hbr.trans (hb4.mono hszr)).mono hb23.size)
          have heq : (s.data.toList == s.toList) = true := by rw [Lib.toList_data]; simp
          go_wp2_with fail
          go_ret
          exact ⟨rfl, hb34⟩
    · have hlt := PL.error_at HL.out he (by rw [HSL.out]; omega)
      obtain ⟨rfl, rfl, _⟩ := PL.lex_error HL.out he (by rw [HSL.out]; omega)
      rw [HSL.out] at hlt
      go_enter Tryd.func8, Tryd.ntmps8
      go_wp2_with fail
      refine (awake_any _ hg).mono ?_
      rintro e w2 ⟨rfl, hb2⟩
      go_wp2_with fail
      have h1 := lex_any s w2 (hg.below hb2 hg.pos) hs
      unfold LexEnd at h1
      rw [HL.out] at h1
      simp only [] at h1
      refine h1.mono ?_
      clear h1
      rintro e w3 ⟨v3, rfl, hown3, hb3⟩
      have hb23 := hb2.trans (hb3.mono hb2.size)
      obtain ⟨A, cap, rfl⟩ := own_form hown3
      clear hown3
      go_wp2_with fail
      go_ret
      exact ⟨rfl, hb23⟩
end Go.Proofs.YtgacfcdpgcpjeaaDoor
