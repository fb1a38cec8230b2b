/- LexerAlone: the text of a token consists of that token alone. -/
import Derived.Test.YtgacfcdpgcpjeaaDoorLexD
import Derived.Test.YtgacfcdpgcpjeaaDoorPlainLex2
namespace Go.Proofs.YtgacfcdpgcpjeaaDoor
open Go.RowKit

set_option maxRecDepth 100000 in
set_option maxHeartbeats 400000 in
theorem alone_walk (s : ByteArray) (k : Nat) (w : World) (hg : SignsIs w) (hs : s.size ≤ maxLen) (hk : k ≤ 255) :
    Calls Tryd.prog 4 #[.string s, .int .u8 (k : Int)] w fun e w' => e = .returned (.bool true) ∧ Below w.heap.size w w' := by
  have h1 := lex_any s w hg hs
  unfold LexEnd at h1
  obtain ⟨ts, at_, er, hL⟩ : ∃ ts a e, PL.lex s.data.toList = (ts, a, e) := ⟨_, _, _, rfl⟩
  rw [hL] at h1
  simp only [] at h1
  have H1 := Lib.hid h1
  have HL := Lib.hid hL
  clear h1 hL
  unfold maxLen at hs
  by_cases hx : 600 < s.size ∨ er ≠ 0 ∨ ts = []
  · rcases (show 600 < s.size ∨ (s.size ≤ 600 ∧ er ≠ 0) ∨ (s.size ≤ 600 ∧ er = 0 ∧ ts.length = 0) from by
      rcases hx with h | h | h
      · exact .inl h
      · omega
      · simp [h]; omega) with h | ⟨h, h2⟩ | ⟨h, rfl, h2⟩
    · go_enter Tryd.func4, Tryd.ntmps4
      go_wp2_with fail
      refine H1.out.mono ?_
      rintro e w1 ⟨v1, rfl, hown1, hb1⟩
      go_wp2_with fail
      refine (awake_any _ (hg.below hb1 hg.pos)).mono ?_
      rintro e w2 ⟨rfl, hb2⟩
      have hb12 := hb1.trans (hb2.mono hb1.size)
      go_wp2_with fail
      refine (awake_any _ (hg.below hb12 hg.pos)).mono ?_
      rintro e w3 ⟨rfl, hb3⟩
      go_wp2_with fail
      go_ret
      exact ⟨rfl, hb12.trans (hb3.mono hb12.size)⟩
    · have he : ((er : Int) != 0) = true := by simp; omega
      go_enter Tryd.func4, Tryd.ntmps4
      go_wp2_with fail
      refine H1.out.mono ?_
      rintro e w1 ⟨v1, rfl, hown1, hb1⟩
      go_wp2_with fail
      refine (awake_any _ (hg.below hb1 hg.pos)).mono ?_
      rintro e w2 ⟨rfl, hb2⟩
      have hb12 := hb1.trans (hb2.mono hb1.size)
      go_wp2_with fail
      refine (awake_any _ (hg.below hb12 hg.pos)).mono ?_
      rintro e w3 ⟨rfl, hb3⟩
      go_wp2_with fail
      go_ret
      exact ⟨rfl, hb12.trans (hb3.mono hb12.size)⟩
    · go_enter Tryd.func4, Tryd.ntmps4
      go_wp2_with fail
      refine H1.out.mono ?_
      rintro e w1 ⟨v1, rfl, hown1, hb1⟩
      rw [h2] at hown1
      obtain ⟨A, c, rfl⟩ := own_form hown1
      go_wp2_with fail
      refine (awake_any _ (hg.below hb1 hg.pos)).mono ?_
      rintro e w2 ⟨rfl, hb2⟩
      have hb12 := hb1.trans (hb2.mono hb1.size)
      go_wp2_with fail
      refine (awake_any _ (hg.below hb12 hg.pos)).mono ?_
      rintro e w3 ⟨rfl, hb3⟩
      go_wp2_with fail
      go_ret
      exact ⟨rfl, hb12.trans (hb3.mono hb12.size)⟩
  · have hx1 : s.size ≤ 600 := by omega
    have hx2 : er = 0 := by omega
    have hx3 : 0 < ts.length := by
      rcases Nat.eq_zero_or_pos ts.length with h | h
      · exact absurd (.inr (.inr (List.eq_nil_of_length_eq_zero h))) hx
      · exact h
    clear hx
    subst hx2
    generalize hn : ts.length = n at *
    have HN := Lib.hid hn
    clear hn
    have hne : ((n : Int) == 0) = false := by simp; omega
    have hkn : k % n < n := Nat.mod_lt _ hx3
    obtain ⟨t, ht⟩ : ∃ t, ts[k % n]? = some t := ⟨_, List.getElem?_eq_getElem (by rw [HN.out]; exact hkn)⟩
    obtain ⟨e0, e1, e2⟩ := toksCells_at ht
    have E0 := Lib.hid e0
    have E1 := Lib.hid e1
    have E2 := Lib.hid e2
    have HT := Lib.hid ht
    clear e0 e1 e2 ht
    go_enter Tryd.func4, Tryd.ntmps4
    go_wp2_with fail
    refine H1.out.mono ?_
    rintro e w1 ⟨v1, rfl, hown1, hb1⟩
    obtain ⟨g, cap, rfl, hg1, hg2, hc, hcell⟩ := own_cells hown1 hx3
    have HC := Lib.hid hcell
    clear hcell hown1
    go_wp2_with (go_at_call 12; refine (awake_any _ (hg.below hb1 hg.pos)).mono ?_; rintro e w2 ⟨rfl, hb2⟩; have c0 := (hb2.cell (p := ⟨g, k % n * 3, none⟩) hg2).trans (HC.out _ _ E0.out); have c1 := (hb2.cell (p := ⟨g, k % n * 3 + 1, none⟩) hg2).trans (HC.out _ _ E1.out); have c2 := (hb2.cell (p := ⟨g, k % n * 3 + 2, none⟩) hg2).trans (HC.out _ _ E2.out))
    have htl : (⟨t.text.toArray⟩ : ByteArray).size ≤ maxLen := by
      have h := PL.tok_len HL.out t (List.mem_of_getElem? HT.out)
      rw [show s.data.toList.length = s.size from Array.length_toList] at h
      unfold maxLen
      show t.text.toArray.size ≤ _
      simp only [List.size_toArray]
      omega
    have hal := PL.alone HL.out t (List.mem_of_getElem? HT.out)
    generalize hW3 : w2.alloc (.cells #[.int .u8 (t.kind : Int), .string ⟨t.text.toArray⟩, .int .i64 (t.pos : Int)] 33) = w3
    have hb3 : Below w.heap.size w w3 := by
      rw [← hW3]
      exact (hb1.trans (hb2.mono hb1.size)).alloc (by have := hb1.size; have := hb2.size; omega) _
    have d0 : w3.cell? ⟨w2.heap.size, 0, none⟩ = some (.int .u8 (t.kind : Int)) := by rw [← hW3]; simp
    have d1 : w3.cell? ⟨w2.heap.size, 1, none⟩ = some (.string ⟨t.text.toArray⟩) := by rw [← hW3]; simp
    have hz3 : w2.heap.size < w3.heap.size := by rw [← hW3]; simp
    clear hW3 c0 c1 c2 HC
    have h4 := lex_any ⟨t.text.toArray⟩ w3 (hg.below hb3 hg.pos) htl
    unfold LexEnd at h4
    rw [show (⟨t.text.toArray⟩ : ByteArray).data.toList = t.text from rfl, hal] at h4
    have H4 := Lib.hid h4
    clear h4 hal
    refine H4.out.mono ?_
    rintro e w4 ⟨v4, rfl, hown4, hb4⟩
    obtain ⟨g4, cap4, rfl, hg5, hg6, hc5, hcell4⟩ := own_cells hown4 (by simp)
    have f0 : w4.cell? ⟨g4, 0, none⟩ = some (.int .u8 (t.kind : Int)) := hcell4 0 _ rfl
    have f1 : w4.cell? ⟨g4, 1, none⟩ = some (.string ⟨t.text.toArray⟩) := hcell4 1 _ rfl
    have f2 : w4.cell? ⟨g4, 2, none⟩ = some (.int .i64 0) := hcell4 2 _ rfl
    have d0' := (hb4.cell (p := ⟨w2.heap.size, 0, none⟩) hz3).trans d0
    have d1' := (hb4.cell (p := ⟨w2.heap.size, 1, none⟩) hz3).trans d1
    clear hcell4 hown4 d0 d1
    go_wp2_with fail
    go_quiet (fail)
    go_wp2_with fail
    go_ret
    exact ⟨rfl, below_drewN (hb3.trans (hb4.mono hb3.size)) _⟩
end Go.Proofs.YtgacfcdpgcpjeaaDoor
