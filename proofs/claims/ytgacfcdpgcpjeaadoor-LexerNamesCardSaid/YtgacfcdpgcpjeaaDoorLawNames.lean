/- LexerNames: names and keywords are those of the reference. -/
import Derived.Test.YtgacfcdpgcpjeaaDoorNames
namespace Go.Proofs.YtgacfcdpgcpjeaaDoor
open Go.RowKit

section
set_option maxHeartbeats 400000
set_option maxRecDepth 100000
theorem names_short (s : ByteArray) (w : World) (hg : SignsIs w) (hs : s.size ≤ 60) :
    Calls Tryd.prog 7 #[.string s] w fun e w' => e = .returned (.bool true) ∧ Below w.heap.size w w' := by
  have hsm : s.size ≤ maxLen := by unfold maxLen; omega
  have hname : ∀ W, SignsIs W → Calls Tryd.prog 17 #[.string s] W fun e w' => e = .returned (.bool (PL.isName s.data.toList)) ∧ Below W.heap.size W w' := fun W hW => name_any s W hW hsm
  have hrname : ∀ W, Calls Tryd.prog 19 #[.string s] W fun e w' => e = .returned (.bool (PL.isName s.data.toList)) ∧ Below W.heap.size W w' := fun W => by
    rw [PL.name_eq]; exact rname_any s W hsm
  have hkey : ∀ W, Calls Tryd.prog 18 #[.string s] W fun e w' => e = .returned (.bool (hasB PL.keywords s.data.toList)) ∧ W = w' := fun W => keyword_any s W
  have hin : ∀ W : World, Calls Tryd.prog 20 #[.slice (some ⟨W.heap.size, 0, none⟩) 13 13, .string s] (W.alloc (.cells keyCells 9)) fun e w' => e = .returned (.bool (hasB PL.keywords s.data.toList)) ∧ W.alloc (.cells keyCells 9) = w' := fun W =>
    in_any _ 13 13 PL.keywords s _ rfl (strs_new _ PL.keywords _) (by omega)
  have hlex : PL.isName s.data.toList = true ∨ hasB PL.keywords s.data.toList = true → PL.lex s.data.toList = ([⟨1, s.data.toList, 0⟩], 0, 0) := by
    rintro (h | h)
    · exact PL.name_word h
    · exact PL.keyword_word _ (by unfold hasB at h; simpa using h)
  have hex : ¬ (PL.isName s.data.toList = true ∧ hasB PL.keywords s.data.toList = true) := by
    rintro ⟨h1, h2⟩
    rw [PL.name_keyword h2] at h1; cases h1
  generalize hnm : PL.isName s.data.toList = nm at *
  generalize hkw : hasB PL.keywords s.data.toList = kw at *
  have HNAME := Lib.hid hname
  have HRNAME := Lib.hid hrname
  have HKEY := Lib.hid hkey
  have HIN := Lib.hid hin
  have HLEX := Lib.hid hlex
  clear hname hrname hkey hin hlex hnm hkw
  rcases (show (nm = false ∧ kw = false) ∨ (nm = true ∧ kw = false) ∨ (nm = false ∧ kw = true) from by cases nm <;> cases kw <;> simp_all) with ⟨rfl, rfl⟩ | ⟨rfl, rfl⟩ | ⟨rfl, rfl⟩
  all_goals
    clear hex
    go_enter Tryd.func7, Tryd.ntmps7
    go_wp2_with fail
    refine (awake_any _ hg).mono ?_
    rintro e w1 ⟨rfl, hb1⟩
    have hg1 := hg.below hb1 hg.pos
    go_wp2_with fail
    refine (HNAME.out _ hg1).mono ?_
    rintro e w2 ⟨rfl, hb2⟩
    have hB2 := hb1.trans (hb2.mono hb1.size)
    clear hb2 hg1
    go_wp2_with fail
    refine (HKEY.out _).mono ?_
    rintro e w3 ⟨rfl, rfl⟩
    go_wp2_with fail
    refine (HRNAME.out _).mono ?_
    rintro e w4 ⟨rfl, hb4⟩
    have hB4 := hB2.trans (hb4.mono hB2.size)
    clear hb4
    go_wp2_with fail
    refine (rkeywords_any _).mono ?_
    rintro e w5 ⟨rfl, rfl⟩
    go_wp2_with fail
    refine (HIN.out _).mono ?_
    rintro e w6 ⟨rfl, rfl⟩
    have hB6 := hB4.alloc hB4.size (.cells keyCells 9)
    generalize w4.alloc (.cells keyCells 9) = w6 at *
    go_wp2_with fail
    have h7 := lex_any s w6 (hg.below hB6 hg.pos) hsm
    unfold LexEnd at h7
    refine h7.mono ?_
    clear h7
    rintro e w7 ⟨v7, rfl, ho7, hb7⟩
    have hB7 := hB6.trans (hb7.mono hB6.size)
    clear hb7
  · clear ho7
    go_wp2_with fail
    go_ret
    exact ⟨rfl, hB7⟩
  all_goals
    have hL := HLEX.out (by simp)
    rw [hL] at ho7
    obtain ⟨g, cap, rfl, hg1, hg2, hc, hcell⟩ := own_cells ho7 (by simp)
    have f0 : w7.cell? ⟨g, 0, none⟩ = some (.int .u8 1) := hcell 0 _ rfl
    rw [hL]
    clear hcell ho7 hL
    go_wp2_with fail
    go_ret
    exact ⟨rfl, hB7⟩
theorem names_walk (s : ByteArray) (w : World) (hg : SignsIs w) (_hs : s.size ≤ maxLen) :
    Calls Tryd.prog 7 #[.string s] w fun e w' => e = .returned (.bool true) ∧ Below w.heap.size w w' := by
  by_cases h : s.size ≤ 60
  · exact names_short s w hg h
  · go_enter Tryd.func7, Tryd.ntmps7
    go_wp2_with fail
    refine (awake_any _ hg).mono ?_
    rintro e w2 ⟨rfl, hb2⟩
    go_wp2_with fail
    refine (awake_any _ (hg.below hb2 hg.pos)).mono ?_
    rintro e w3 ⟨rfl, hb3⟩
    go_wp2_with fail
    go_ret
    exact ⟨rfl, hb2.trans (hb3.mono hb2.size)⟩
end
end Go.Proofs.YtgacfcdpgcpjeaaDoor
