/- LexerSuffix: the text from the start of a token on has the remaining tokens. -/
import Derived.Test.YtgacfcdpgcpjeaaDoorLexD
import Derived.Test.YtgacfcdpgcpjeaaDoorPlainLex2
namespace Go.Proofs.YtgacfcdpgcpjeaaDoor
open Go.RowKit

set_option maxRecDepth 100000 in
set_option maxHeartbeats 400000 in
theorem suffix_walk (s : ByteArray) (k : Nat) (w : World) (hg : SignsIs w) (hs : s.size ≤ maxLen) (hk : k ≤ 255) :
    Calls Tryd.prog 5 #[.string s, .int .u8 (k : Int)] w fun e w' => e = .returned (.bool true) ∧ Below w.heap.size w w' := by
  have h1 := lex_any s w hg hs
  unfold LexEnd at h1
  obtain ⟨ts, at_, er, hL⟩ : ∃ ts a e, PL.lex s.data.toList = (ts, a, e) := ⟨_, _, _, rfl⟩
  rw [hL] at h1
  simp only [] at h1
  have H1 := Lib.hid h1
  have HL := Lib.hid hL
  clear h1 hL
  unfold maxLen at hs
  by_cases hx : 600 < s.size ∨ er ≠ 0 ∨ ts = []
  · rcases (show 600 < s.size ∨ (s.size ≤ 600 ∧ er ≠ 0) ∨ (s.size ≤ 600 ∧ er = 0 ∧ ts.length = 0) from by
      rcases hx with h | h | h
      · exact .inl h
      · omega
      · simp [h]; omega) with h | ⟨h, h2⟩ | ⟨h, rfl, h2⟩
    · go_enter Tryd.func5, Tryd.ntmps5
      go_wp2_with fail
      refine H1.out.mono ?_
      rintro e w1 ⟨v1, rfl, hown1, hb1⟩
      go_wp2_with fail
      refine (awake_any _ (hg.below hb1 hg.pos)).mono ?_
      rintro e w2 ⟨rfl, hb2⟩
      have hb12 := hb1.trans (hb2.mono hb1.size)
      go_wp2_with fail
      refine (awake_any _ (hg.below hb12 hg.pos)).mono ?_
      rintro e w3 ⟨rfl, hb3⟩
      go_wp2_with fail
      go_ret
      exact ⟨rfl, hb12.trans (hb3.mono hb12.size)⟩
    · have he : ((er : Int) != 0) = true := by simp; omega
      go_enter Tryd.func5, Tryd.ntmps5
      go_wp2_with fail
      refine H1.out.mono ?_
      rintro e w1 ⟨v1, rfl, hown1, hb1⟩
      go_wp2_with fail
      refine (awake_any _ (hg.below hb1 hg.pos)).mono ?_
      rintro e w2 ⟨rfl, hb2⟩
      have hb12 := hb1.trans (hb2.mono hb1.size)
      go_wp2_with fail
      refine (awake_any _ (hg.below hb12 hg.pos)).mono ?_
      rintro e w3 ⟨rfl, hb3⟩
      go_wp2_with fail
      go_ret
      exact ⟨rfl, hb12.trans (hb3.mono hb12.size)⟩
    · go_enter Tryd.func5, Tryd.ntmps5
      go_wp2_with fail
      refine H1.out.mono ?_
      rintro e w1 ⟨v1, rfl, hown1, hb1⟩
      rw [h2] at hown1
      obtain ⟨A, c, rfl⟩ := own_form hown1
      go_wp2_with fail
      refine (awake_any _ (hg.below hb1 hg.pos)).mono ?_
      rintro e w2 ⟨rfl, hb2⟩
      have hb12 := hb1.trans (hb2.mono hb1.size)
      go_wp2_with fail
      refine (awake_any _ (hg.below hb12 hg.pos)).mono ?_
      rintro e w3 ⟨rfl, hb3⟩
      go_wp2_with fail
      go_ret
      exact ⟨rfl, hb12.trans (hb3.mono hb12.size)⟩
  · have hx1 : s.size ≤ 600 := by omega
    have hx2 : er = 0 := by omega
    have hx3 : 0 < ts.length := by
      rcases Nat.eq_zero_or_pos ts.length with h | h
      · exact absurd (.inr (.inr (List.eq_nil_of_length_eq_zero h))) hx
      · exact h
    clear hx
    subst hx2
    have hsl : s.data.toList.length = s.size := Array.length_toList
    generalize hn : ts.length = n at *
    have HN := Lib.hid hn
    clear hn
    have hne : ((n : Int) == 0) = false := by simp; omega
    have hkn : k % n < n := Nat.mod_lt _ hx3
    obtain ⟨t, ht⟩ : ∃ t, ts[k % n]? = some t := ⟨_, List.getElem?_eq_getElem (by rw [HN.out]; exact hkn)⟩
    obtain ⟨_, _, e2⟩ := toksCells_at ht
    obtain ⟨hp1, us, hus, hdr⟩ := PL.suffix HL.out (k % n) t ht
    rw [hsl] at hp1
    have hul : us.length = n - k % n := by
      have := congrArg List.length hdr
      rw [List.length_drop, List.length_map, HN.out] at this
      exact this.symm
    have hn600 : n ≤ 600 := by
      have := PL.lex_count HL.out
      rw [HN.out, hsl] at this
      omega
    generalize hi : k % n = i at *
    generalize htp : t.pos = tp at *
    have E2 := Lib.hid e2
    have HU := Lib.hid hus
    have HD := Lib.hid hdr
    have HUL := Lib.hid hul
    have HI := Lib.hid hi
    have HSL := Lib.hid hsl
    clear e2 ht hus hdr hul htp hi hsl
    have hmod : (k : Int) % (n : Int) = (i : Int) := by rw [← HI.out]; simp
    go_enter Tryd.func5, Tryd.ntmps5
    go_wp2_with fail
    refine H1.out.mono ?_
    rintro e w1 ⟨v1, rfl, hown1, hb1⟩
    obtain ⟨g, cap, rfl, hg1, hg2, hc, hcell⟩ := own_cells hown1 hx3
    have HC := Lib.hid hcell
    clear hcell hown1
    go_wp2_with (go_at_call 12; refine (awake_any _ (hg.below hb1 hg.pos)).mono ?_; rintro e w2 ⟨rfl, hb2⟩; have c2 := (hb2.cell (p := ⟨g, i * 3 + 2, none⟩) hg2).trans (HC.out _ _ E2.out))
    have hb12 := hb1.trans (hb2.mono hb1.size)
    have h4 := lex_any (s.extract tp s.size) w2 (hg.below hb12 hg.pos) (by simp [maxLen]; omega)
    unfold LexEnd at h4
    rw [drop_bytes, HU.out] at h4
    simp only [HUL.out] at h4
    generalize hm : n - i = m at h4
    have H4 := Lib.hid h4
    have hm0 : 0 < m := by omega
    have hmn : m ≤ n := by omega
    have hmi : i + m = n := by omega
    have HM := Lib.hid hm
    have HMI := Lib.hid hmi
    clear h4 c2 hm hmi
    have hme : ((m : Int) != (n : Int) - (i : Int)) = false := by have := HMI.out; simp; omega
    refine H4.out.mono ?_
    rintro e w3 ⟨v3, rfl, hown3, hb3⟩
    obtain ⟨g3, cap3, rfl, hg4, hg5, hc3, hcell3⟩ := own_cells hown3 hm0
    have HC3 := Lib.hid hcell3
    have hb23 : Below w.heap.size w w3 := hb12.trans (hb3.mono hb12.size)
    have hgw3 : g < w3.heap.size := by have := hb2.size; have := hb3.size; omega
    have hbg : Below w1.heap.size w1 w3 := hb2.trans (hb3.mono hb2.size)
    clear hcell3 hown3
    go_wp2_with fail
    go_loopw [78] (fun x wr => ∃ j : Nat, j ≤ m ∧ x = .int .i64 j ∧ Below w3.heap.size w3 wr) (fun x _ => m - (intOf x).toNat)
    case atStart => exact ⟨0, Nat.zero_le _, rfl, Below.refl _ _⟩
    case round =>
      obtain ⟨j, hj, rfl, hbr⟩ := hrel
      have hszr := hbr.size
      by_cases hlt : j < m
      · obtain ⟨u, hu⟩ : ∃ u, us[j]? = some u := ⟨_, List.getElem?_eq_getElem (by rw [HUL.out, HM.out]; exact hlt)⟩
        obtain ⟨a0, a1, a2⟩ := toksCells_at hu
        have hy : ts[i + j]? = some (PL.shift tp u) := by
          have := congrArg (·[j]?) HD.out
          simp only [List.getElem?_drop, List.getElem?_map, hu, Option.map_some] at this
          exact this
        obtain ⟨b0, b1, b2⟩ := toksCells_at hy
        have hup := PL.tok_pos HU.out j u hu
        rw [List.length_drop, HSL.out] at hup
        have x0 := (hbr.cell (p := ⟨g3, j * 3, none⟩) hg5).trans (HC3.out _ _ a0)
        have x1 := (hbr.cell (p := ⟨g3, j * 3 + 1, none⟩) hg5).trans (HC3.out _ _ a1)
        have x2 := (hbr.cell (p := ⟨g3, j * 3 + 2, none⟩) hg5).trans (HC3.out _ _ a2)
        have y0 := (hbr.cell (p := ⟨g, (i + j) * 3, none⟩) hgw3).trans ((hbg.cell (p := ⟨g, (i + j) * 3, none⟩) hg2).trans (HC.out _ _ b0))
        have y1 := (hbr.cell (p := ⟨g, (i + j) * 3 + 1, none⟩) hgw3).trans ((hbg.cell (p := ⟨g, (i + j) * 3 + 1, none⟩) hg2).trans (HC.out _ _ b1))
        have y2 := (hbr.cell (p := ⟨g, (i + j) * 3 + 2, none⟩) hgw3).trans ((hbg.cell (p := ⟨g, (i + j) * 3 + 2, none⟩) hg2).trans (HC.out _ _ b2))
        rw [show (PL.shift tp u).kind = u.kind from rfl] at y0
        rw [show (PL.shift tp u).text = u.text from rfl] at y1
        rw [show (((PL.shift tp u).pos : Nat) : Int) = (u.pos : Int) + (tp : Int) from by simp [PL.shift]] at y2
        clear hu a0 a1 a2 hy b0 b1 b2
        have hij : i + j < n := by have := HMI.out; omega
        have z0 : World.cell? (wr.alloc (.cells #[.int .u8 (u.kind : Int), .string ⟨u.text.toArray⟩, .int .i64 (u.pos : Int)] 33)) ⟨g, (i + j) * 3, none⟩ = some (.int .u8 (u.kind : Int)) := by
          rw [World.cell?_alloc_lt _ _ _ (show g < wr.heap.size by omega)]; exact y0
        have z1 : World.cell? (wr.alloc (.cells #[.int .u8 (u.kind : Int), .string ⟨u.text.toArray⟩, .int .i64 (u.pos : Int)] 33)) ⟨g, (i + j) * 3 + 1, none⟩ = some (.string ⟨u.text.toArray⟩) := by
          rw [World.cell?_alloc_lt _ _ _ (show g < wr.heap.size by omega)]; exact y1
        have z2 : World.cell? (wr.alloc (.cells #[.int .u8 (u.kind : Int), .string ⟨u.text.toArray⟩, .int .i64 (u.pos : Int)] 33)) ⟨g, (i + j) * 3 + 2, none⟩ = some (.int .i64 ((u.pos : Int) + (tp : Int))) := by
          rw [World.cell?_alloc_lt _ _ _ (show g < wr.heap.size by omega)]; exact y2
        clear y0 y1 y2
        go_wp2_with fail
        go_roundw
        case rel => exact ⟨j + 1, by omega, by go_num, (hbr.alloc hszr _).alloc (by simp; omega) _⟩
        case measure => simp [intOf]; omega
      · go_wp2_with fail
        go_ret
        exact ⟨rfl, hb23.trans (hbr.mono hb23.size)⟩
end Go.Proofs.YtgacfcdpgcpjeaaDoor
