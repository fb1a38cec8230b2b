/- LexerLines: two texts with a line feed between them have the solid tokens of both. -/
import Derived.Test.YtgacfcdpgcpjeaaDoorLawJoins
import Derived.Test.YtgacfcdpgcpjeaaDoorPlainLex3
namespace Go.Proofs.YtgacfcdpgcpjeaaDoor
open Go.RowKit

theorem solid_rt (ts : List PL.Tok) : solidRT (ts.map rtOf) = (ts.filter PL.solidT).map rtOf := by
  unfold solidRT
  rw [List.filter_map]
  congr 1
  apply List.filter_congr
  intro t _
  simp only [Function.comp, solidB, rtOf, PL.solidT]
  rw [Bool.eq_iff_iff]; simp; omega
theorem own_rt {w : World} {base : Nat} {v : Value} {ts : List PL.Tok} (h : w.ownsRow base 33 3 v ts.length (toksCells ts)) : ∃ A c, v = .slice A ts.length c ∧ RToks w A (ts.map rtOf) := by
  obtain ⟨A, c, rfl⟩ := own_form h
  rw [toksCells_eq] at h
  exact ⟨A, c, rfl, RToks.of_own (base := base) (e := 33) (c := c) (by rw [List.length_map]; exact h)⟩
/-- Solid over the tokens that Lex made. -/
theorem solid_toks (A : Option Addr) (n c : Nat) (ts : List PL.Tok) (w : World) (hN : ts.length = n) (h : RToks w A (ts.map rtOf)) (hlen : n ≤ 65536) :
    Calls Tryd.prog 16 #[.slice A n c] w fun e w' => ∃ A' c', e = .returned (.slice A' (ts.filter PL.solidT).length c') ∧ RToks w' A' ((ts.filter PL.solidT).map rtOf) ∧ Below w.heap.size w w' := by
  refine (solid_any A n c (ts.map rtOf) w (by rw [List.length_map]; exact hN) h (by omega)).mono ?_
  rintro e w' ⟨v, rfl, hown, hb⟩
  rw [solid_rt] at hown
  obtain ⟨A', c', rfl⟩ := own_form hown
  refine ⟨A', c', by rw [List.length_map], RToks.of_own (base := w.heap.size) (e := 33) (c := c') hown, hb⟩

def join3 (a b : ByteArray) : ByteArray := a ++ ⟨#[10]⟩ ++ b
theorem join3_list (a b : ByteArray) : (join3 a b).data.toList = a.data.toList ++ 10 :: b.data.toList := by
  unfold join3
  simp [ByteArray.data_append]

section
set_option maxRecDepth 100000
set_option maxHeartbeats 400000
theorem lines_long (a b : ByteArray) (w : World) (hg : SignsIs w) (hx : 600 < a.size ∨ (a.size ≤ 600 ∧ 600 < b.size)) :
    Calls Tryd.prog 6 #[.string a, .string b] w fun e w' => e = .returned (.bool true) ∧ Below w.heap.size w w' := by
  rcases hx with h | ⟨h, h2⟩
  all_goals
    go_enter Tryd.func6, Tryd.ntmps6
    go_wp2_with fail
    refine (awake_any _ hg).mono ?_
    rintro e w2 ⟨rfl, hb2⟩
    go_wp2_with fail
    refine (awake_any _ (hg.below hb2 hg.pos)).mono ?_
    rintro e w3 ⟨rfl, hb3⟩
    go_wp2_with fail
    go_ret
    exact ⟨rfl, hb2.trans (hb3.mono hb2.size)⟩
theorem lines_short (a b : ByteArray) (w : World) (hg : SignsIs w) (ha : a.size ≤ 600) (hb : b.size ≤ 600) :
    Calls Tryd.prog 6 #[.string a, .string b] w fun e w' => e = .returned (.bool true) ∧ Below w.heap.size w w' := by
  have hla : a.data.toList.length = a.size := Array.length_toList
  have hlb : b.data.toList.length = b.size := Array.length_toList
  obtain ⟨ts, p, e1, h1⟩ : ∃ ts a' e, PL.lex a.data.toList = (ts, a', e) := ⟨_, _, _, rfl⟩
  obtain ⟨us, q, e2, h2⟩ : ∃ ts a' e, PL.lex b.data.toList = (ts, a', e) := ⟨_, _, _, rfl⟩
  have hsum : a.data.toList.length + 1 + b.data.toList.length ≤ 65536 := by omega
  have HLA := Lib.hid hla
  have HLB := Lib.hid hlb
  have H1 := Lib.hid h1
  have H2 := Lib.hid h2
  have HS := Lib.hid hsum
  clear hla hlb h1 h2 hsum
  go_enter Tryd.func6, Tryd.ntmps6
  go_wp2_with fail
  refine (awake_any _ hg).mono ?_
  rintro e w0 ⟨rfl, hb0⟩
  go_wp2_with fail
  have hx1 := lex_any a w0 (hg.below hb0 hg.pos) (by unfold maxLen; omega)
  unfold LexEnd at hx1
  rw [H1.out] at hx1
  refine hx1.mono ?_
  clear hx1
  rintro e w1 ⟨v1, rfl, ho1, hb1⟩
  have hB1 := hb0.trans (hb1.mono hb0.size)
  obtain ⟨A1, c1, rfl, hr1⟩ := own_rt ho1
  clear ho1
  go_wp2_with fail
  have hx2 := lex_any b w1 (hg.below hB1 hg.pos) (by unfold maxLen; omega)
  unfold LexEnd at hx2
  rw [H2.out] at hx2
  refine hx2.mono ?_
  clear hx2
  rintro e w2 ⟨v2, rfl, ho2, hb2⟩
  have hB2 := hB1.trans (hb2.mono hB1.size)
  obtain ⟨A2, c2, rfl, hr2⟩ := own_rt ho2
  have hr1 := hr1.below hb2
  clear ho2
  have hx3 := lex_any (join3 a b) w2 (hg.below hB2 hg.pos) (by rw [Lib.size_eq, join3_list, List.length_append, List.length_cons, HLA.out, HLB.out]; unfold maxLen; omega)
  unfold LexEnd at hx3
  rw [join3_list] at hx3
  unfold join3 at hx3
  have HX3 := Lib.hid hx3
  clear hx3
  by_cases he1 : e1 = 0
  · by_cases he2 : e2 = 0
    · subst he1; subst he2
      obtain ⟨vs, hv1, hv2⟩ := PL.lines_ok H1.out H2.out HS.out
      have hx3 := HX3.out
      rw [hv1] at hx3
      have HX4 := Lib.hid hx3
      have HV2 := Lib.hid hv2
      have hn1 := PL.lex_count H1.out
      have hn2 := PL.lex_count H2.out
      have hn3 := PL.lex_count hv1
      have hup : ∀ u ∈ us, u.pos ≤ 600 := by
        intro u hu
        obtain ⟨i, hi, rfl⟩ := List.mem_iff_getElem.1 hu
        have := PL.tok_pos H2.out i _ (List.getElem?_eq_getElem hi)
        rw [HLB.out] at this
        omega
      have HUP := Lib.hid hup
      rw [HLA.out] at hn1
      rw [HLB.out] at hn2
      simp only [List.length_append, List.length_cons] at hn3
      rw [HLA.out, HLB.out] at hn3
      clear hx3 hv1 hv2 HX3 hup
      generalize hk1 : ts.length = n1 at *
      generalize hk2 : us.length = n2 at *
      generalize hk3 : vs.length = n3 at *
      have HK1 := Lib.hid hk1
      have HK2 := Lib.hid hk2
      have HK3 := Lib.hid hk3
      clear hk1 hk2 hk3
      go_wp2_with fail
      refine HX4.out.mono ?_
      rintro e w3 ⟨v3, rfl, ho3, hb3⟩
      have hB3 := hB2.trans (hb3.mono hB2.size)
      rw [← HK3.out] at ho3
      obtain ⟨A3, c3, rfl, hr3⟩ := own_rt ho3
      rw [HK3.out]
      have hr1 := hr1.below hb3
      have hr2 := hr2.below hb3
      clear ho3 HX4
      go_wp2_with fail
      refine (solid_toks A1 n1 c1 ts w3 HK1.out hr1 (by omega)).mono ?_
      rintro e w4 ⟨A4, c4, rfl, hs1, hb4⟩
      have hB4 := hB3.trans (hb4.mono hB3.size)
      have hr2 := hr2.below hb4
      have hr3 := hr3.below hb4
      go_wp2_with fail
      refine (solid_toks A2 n2 c2 us w4 HK2.out hr2 (by omega)).mono ?_
      rintro e w5 ⟨A5, c5, rfl, hs2, hb5⟩
      have hB5 := hB4.trans (hb5.mono hB4.size)
      have hr3 := hr3.below hb5
      have hs1 := hs1.below hb5
      go_wp2_with fail
      refine (solid_toks A3 n3 c3 vs w5 HK3.out hr3 (by omega)).mono ?_
      rintro e w6 ⟨A6, c6, rfl, hs3, hb6⟩
      have hB6 := hB5.trans (hb6.mono hB5.size)
      have hs1 := hs1.below hb6
      have hs2 := hs2.below hb6
      have hxu : ∀ u ∈ us.filter PL.solidT, u.pos ≤ 600 := fun u hu => HUP.out u (List.mem_filter.1 hu).1
      generalize hX : ts.filter PL.solidT = X at *
      generalize hY : us.filter PL.solidT = Y at *
      have hZ := HV2.out
      generalize hZ' : vs.filter PL.solidT = Z at *
      have hxl : X.length ≤ 600 := by rw [← hX]; have := List.length_filter_le PL.solidT ts; have := HK1.out; omega
      have hyl : Y.length ≤ 600 := by rw [← hY]; have := List.length_filter_le PL.solidT us; have := HK2.out; omega
      have hzl : Z.length = X.length + Y.length := by rw [hZ]; simp
      have HXU := Lib.hid hxu
      have HZ := Lib.hid hZ
      clear hX hY hZ hZ' hxu HV2
      generalize hk4 : X.length = m1 at *
      generalize hk5 : Y.length = m2 at *
      generalize hk6 : Z.length = m3 at *
      have HK4 := Lib.hid hk4
      have HK5 := Lib.hid hk5
      have HK6 := Lib.hid hk6
      have hzb : ((m3 : Int) != (m1 : Int) + (m2 : Int)) = false := by simp; omega
      have hm3 : m3 ≤ 1200 := by omega
      have hmm : m1 ≤ m3 := by omega
      have HZL := Lib.hid hzl
      clear hk4 hk5 hk6 hzl hr1 hr2 hr3
      go_wp2_with fail
      go_loopw [108] (fun x wr => ∃ j : Nat, j ≤ m3 ∧ x = .int .i64 j ∧ Below w6.heap.size w6 wr) (fun x _ => m3 - (intOf x).toNat)
      case atStart => exact ⟨0, Nat.zero_le _, rfl, Below.refl _ _⟩
      case round =>
        obtain ⟨j, hj, rfl, hbr⟩ := hrel
        have hszr := hbr.size
        have hs1 := hs1.below hbr
        have hs2 := hs2.below hbr
        have hs3 := hs3.below hbr
        by_cases hlt : j < m3
        · obtain ⟨z, hz⟩ : ∃ z, Z[j]? = some z := ⟨_, List.getElem?_eq_getElem (by rw [HK6.out]; exact hlt)⟩
          obtain ⟨bz, oz, rfl, hbz, hcz⟩ := hs3 (by intro h; have := HK6.out; simp at h; rw [h] at this; simp at this; omega)
          obtain ⟨z0, z1, z2⟩ := hcz j (rtOf z) (by simp [hz])
          simp only [rtOf] at z0 z1 z2
          clear hcz hs3
          by_cases hlx : j < m1
          · have hzx : X[j]? = some z := by
              have := hz
              rw [HZ.out, List.getElem?_append_left (by rw [HK4.out]; exact hlx)] at this
              exact this
            obtain ⟨bx, ox, rfl, hbx, hcx⟩ := hs1 (by intro h; have := HK4.out; simp at h; rw [h] at this; simp at this; omega)
            obtain ⟨x0, x1, x2⟩ := hcx j (rtOf z) (by simp [hzx])
            simp only [rtOf] at x0 x1 x2
            clear hcx hs1 hs2 hzx hz
            go_wp2_with fail
            go_quiet (fail)
            go_wp2_with fail
            go_roundw
            case rel => exact ⟨j + 1, by omega, by go_num, below_drewN (hbr.alloc hszr _) _⟩
            case measure => simp [intOf]; omega
          · have hjm : j - m1 < m2 := by have := HZL.out; omega
            obtain ⟨u, hu⟩ : ∃ u, Y[j - m1]? = some u := ⟨_, List.getElem?_eq_getElem (by rw [HK5.out]; exact hjm)⟩
            have hzu : z = PL.shift (a.size + 1) u := by
              have := hz
              rw [HZ.out, List.getElem?_append_right (by rw [HK4.out]; omega), HK4.out, List.getElem?_map, hu, HLA.out] at this
              simpa using this.symm
            obtain ⟨by_, oy, rfl, hby, hcy⟩ := hs2 (by intro h; have := HK5.out; simp at h; rw [h] at this; simp at this; omega)
            obtain ⟨y0, y1, y2⟩ := hcy (j - m1) (rtOf u) (by simp [hu])
            have hup := HXU.out u (List.mem_of_getElem? hu)
            simp only [rtOf] at y0 y1 y2
            rw [hzu] at z0 z1 z2
            rw [show (PL.shift (a.size + 1) u).kind = u.kind from rfl] at z0
            rw [show (PL.shift (a.size + 1) u).text = u.text from rfl] at z1
            rw [show (((PL.shift (a.size + 1) u).pos : Nat) : Int) = (u.pos : Int) + ((a.size : Int) + 1) from by simp [PL.shift]] at z2
            clear hcy hs1 hs2 hzu hz hu
            go_wp2_with fail
            go_roundw
            case rel => exact ⟨j + 1, by omega, by go_num, (hbr.alloc hszr _).alloc (by simp; omega) _⟩
            case measure => simp [intOf]; omega
        · go_wp2_with fail
          go_ret
          exact ⟨rfl, hB6.trans (hbr.mono hB6.size)⟩
    · subst he1
      have hv1 := PL.lines_error2 H1.out H2.out he2 HS.out
      obtain ⟨rfl, rfl, _⟩ := PL.lex_error H2.out he2 (by have := HS.out; omega)
      have hq := PL.error_at H2.out he2 (by have := HS.out; omega)
      rw [HLB.out] at hq
      have hx3 := HX3.out
      rw [hv1, HLA.out] at hx3
      rw [show (((q + a.size + 1 : Nat)) : Int) = (q : Int) + (a.size : Int) + 1 from by omega] at hx3
      have HX4 := Lib.hid hx3
      clear hx3 hv1 HX3
      go_wp2_with fail
      refine HX4.out.mono ?_
      rintro e w3 ⟨v3, rfl, ho3, hb3⟩
      have hB3 := hB2.trans (hb3.mono hB2.size)
      obtain ⟨A3, c3, rfl⟩ := own_form ho3
      clear ho3
      go_wp2_with fail
      go_ret
      exact ⟨rfl, hB3⟩
  · have hv1 := PL.lines_error1 b.data.toList H1.out he1 HS.out
    obtain ⟨rfl, rfl, _⟩ := PL.lex_error H1.out he1 (by have := HS.out; omega)
    have hx3 := HX3.out
    rw [hv1] at hx3
    have HX4 := Lib.hid hx3
    clear hx3 hv1 HX3
    go_wp2_with fail
    refine HX4.out.mono ?_
    rintro e w3 ⟨v3, rfl, ho3, hb3⟩
    have hB3 := hB2.trans (hb3.mono hB2.size)
    obtain ⟨A3, c3, rfl⟩ := own_form ho3
    clear ho3
    go_wp2_with fail
    go_ret
    exact ⟨rfl, hB3⟩
theorem lines_walk (a b : ByteArray) (w : World) (hg : SignsIs w) (_ha : a.size ≤ maxLen) (_hb : b.size ≤ maxLen) :
    Calls Tryd.prog 6 #[.string a, .string b] w fun e w' => e = .returned (.bool true) ∧ Below w.heap.size w w' := by
  by_cases h : a.size ≤ 600 ∧ b.size ≤ 600
  · exact lines_short a b w hg h.1 h.2
  · exact lines_long a b w hg (by omega)
end
end Go.Proofs.YtgacfcdpgcpjeaaDoor
