/- The contracts of the reference's Solid and of the reader's open. -/
import Derived.Test.YtglaecalbamnkaaGreatDoorRdF
import Derived.Test.YtglaecalbamnkaaGreatDoorRdM
namespace Go.Proofs.YtglaecalbamnkaaGreatDoor
open Go.RowKit Go.Maps
open PP (Tree)
section
set_option maxHeartbeats 1000000
set_option maxRecDepth 100000
theorem rsolid_any (A : Option Addr) (n c : Nat) (rs : List RT) (w : World) (hN : rs.length = n) (h : RToks w A rs) (hlen : n ≤ 4398046511000) :
    Calls Tryz.prog 47 #[.slice A n c] w fun e w' => ∃ v, e = .returned v ∧ w'.ownsRow w.heap.size 58 3 v (solidRT rs).length ((solidRT rs).flatMap RT.cells) ∧ Below w.heap.size w w' := by
  obtain ⟨i0, hi, hz0, hz1, hz2⟩ := info_parts infoRefTok
  have HI := Lib.hid hi
  have HZ0 := Lib.hid hz0
  have HZ1 := Lib.hid hz1
  have HZ2 := Lib.hid hz2
  clear hi hz0 hz1 hz2
  have HN := Lib.hid hN
  clear hN
  go_enter Tryz.func47, Tryz.ntmps47
  go_wp2_with fail
  go_loopw [3, 4] (fun v i wr => ∃ k : Nat, k ≤ n ∧ i = .int .i64 k ∧ wr.ownsRow w.heap.size 58 3 v (solidRT (rs.take k)).length ((solidRT (rs.take k)).flatMap RT.cells) ∧ Below w.heap.size w wr)
    (fun _ i _ => n - (intOf i).toNat)
  case atStart => exact ⟨0, Nat.zero_le _, rfl, World.ownsRow_nil _ _ _ _, Below.refl _ _⟩
  case round =>
    obtain ⟨k, hk, rfl, hown, hbel⟩ := hrel
    have hsz := hbel.size
    by_cases hlt : k < n
    · obtain ⟨r, hr⟩ : ∃ r, rs[k]? = some r := ⟨_, List.getElem?_eq_getElem (by rw [HN.out]; exact hlt)⟩
      obtain ⟨b, o, rfl, hb, hc⟩ := h (by rintro rfl; have := HN.out; simp at this; omega)
      obtain ⟨h0, h1, h2⟩ := hc k r hr
      have c0 := (hbel.cell (p := ⟨b, o + k * 3, none⟩) hb).trans h0
      have c1 := (hbel.cell (p := ⟨b, o + k * 3 + 1, none⟩) hb).trans h1
      have c2 := (hbel.cell (p := ⟨b, o + k * 3 + 2, none⟩) hb).trans h2
      have HJ := Lib.hid (solid_take rs k r hr)
      have hle := solid_le rs k
      have p1 : (0 : Int) ≤ (k : Int) := by omega
      have p2 : (k : Int) < (n : Int) := by omega
      clear h0 h1 h2 hc h hr
      cases hs4 : (r.k != 4) with
      | false =>
        have hsb : solidB r = false := by simp [solidB, hs4]
        have HS := Lib.hid hsb
        clear hsb
        go_wp2_with fail
        go_roundw
        case rel => exact ⟨k + 1, by omega, by go_num, by rw [HJ.out, HS.out]; simpa using hown, hbel⟩
        case measure => simp [intOf]; omega
      | true =>
        cases hs5 : (r.k != 5) with
        | false =>
          have hsb : solidB r = false := by simp [solidB, hs5]
          have HS := Lib.hid hsb
          clear hsb
          go_wp2_with fail
          go_roundw
          case rel => exact ⟨k + 1, by omega, by go_num, by rw [HJ.out, HS.out]; simpa using hown, hbel⟩
          case measure => simp [intOf]; omega
        | true =>
          have hsb : solidB r = true := by simp [solidB, hs4, hs5]
          have HS := Lib.hid hsb
          clear hsb
          go_wp2_with (at_builtin; refine wpList_append_own _ rfl _ _ 61 rfl w.heap.size 58 i0 (.agg #[.int .u8 0, .string ⟨#[]⟩, .int .i64 0]) 3 32 Tryz.underlying61 HI.out HZ0.out HZ1.out HZ2.out rfl (by decide) _ _ _ rfl (hown.alloc _) ⟨wr.heap.size, 0, none⟩ 1 1 [.int .u8 r.k, .string r.s, .int .i64 r.p] rfl rfl ?c1 ?c2 ?c3 ?c4 ?c5 ?_)
          case c1 =>
            have := cells_three wr (.int .u8 r.k) (.string r.s) (.int .i64 r.p) 58
            simpa using this
          case c2 => intro u hu; simp at hu; rcases hu with rfl | rfl | rfl <;> rfl
          case c3 => unfold maxLen; omega
          case c4 => omega
          case c5 => simp; omega
          intro v' w2 hown2 hg2 _
          have hbel2 : Below w.heap.size w w2 :=
            Below.grown (hbel.alloc hsz _) hg2 (by simp; omega) (fun k hk => (hown.lt k hk).1)
          have hrow : w2.ownsRow w.heap.size 58 3 v' (solidRT (rs.take (k + 1))).length ((solidRT (rs.take (k + 1))).flatMap RT.cells) := by
            rw [HJ.out, HS.out]
            simpa [RT.cells] using hown2
          clear hown2 hg2
          go_wp2_with fail
          go_roundw
          case rel => exact ⟨k + 1, by omega, by go_num, hrow, hbel2⟩
          case measure => simp [intOf]; omega
    · have hk' : rs.take k = rs := List.take_of_length_le (by rw [HN.out]; omega)
      rw [hk'] at hown
      clear hk'
      go_wp2_with fail
      go_ret
      exact ⟨_, rfl, hown, hbel⟩
theorem own_rt11 {w : World} {base : Nat} {v : Value} {ts : List PL.Tok} (h : w.ownsRow base 58 3 v ts.length (toksCells ts)) : ∃ A c, v = .slice A ts.length c ∧ RToks w A (ts.map rtOf) := by
  obtain ⟨A, c, rfl⟩ := own_form h
  rw [toksCells_eq] at h
  exact ⟨A, c, rfl, RToks.of_own (base := base) (e := 58) (c := c) (by rw [List.length_map]; exact h)⟩
theorem rsolid_toks (A : Option Addr) (n c : Nat) (ts : List PL.Tok) (w : World) (hN : ts.length = n) (h : RToks w A (ts.map rtOf)) (hlen : n ≤ 65536) :
    Calls Tryz.prog 47 #[.slice A n c] w fun e w' => ∃ A' c', e = .returned (.slice A' (ts.filter PL.solidT).length c') ∧ (ts.filter PL.solidT).length ≤ c' ∧ RToks w' A' ((ts.filter PL.solidT).map rtOf) ∧ Below w.heap.size w w' := by
  refine (rsolid_any A n c (ts.map rtOf) w (by rw [List.length_map]; exact hN) h (by omega)).mono ?_
  rintro e w' ⟨v, rfl, hown, hb⟩
  rw [solid_rt] at hown
  obtain ⟨A', c', rfl⟩ := own_form hown
  refine ⟨A', c', by rw [List.length_map], ?_, RToks.of_own (base := w.heap.size) (e := 58) (c := c') hown, hb⟩
  by_cases h0 : 0 < (ts.filter PL.solidT).length
  · obtain ⟨g, cap, hv, h1, h2, h3, h4⟩ := own_cells hown (by rw [List.length_map]; exact h0)
    injection hv with e1 e2 e3
    rw [List.length_map] at h3
    omega
  · omega
/-- What open makes: a reader at the text's start. -/
def ROpenEnd (s : ByteArray) (w : World) (r : Ending) (w' : World) : Prop := ∃ b Y, r = .returned (.pointer (some ⟨b, 0, none⟩)) ∧ w.heap.size ≤ b ∧ RS w' b Y (envOf s) (sigOf s) ∧ Below w.heap.size w w'
theorem ropen_any (s : ByteArray) (w : World) (hs : s.size ≤ 65536) : Calls Tryz.prog 17 #[.string s] w (ROpenEnd s w) := by
  have hlx := rlex_any s w hs
  have hsl : s.data.toList.length = s.size := Array.length_toList
  have hcnt : (PL.lex s.data.toList).1.length ≤ 65536 ∧ (∀ t ∈ (PL.lex s.data.toList).1, t.text.length ≤ 65536) := by
    generalize hX : PL.lex s.data.toList = X
    obtain ⟨ts, p, e⟩ := X
    by_cases he : e = 0
    · subst he
      have h1 := (PL.lex_ok hX rfl).1
      have h2 := PL.lex_count hX
      exact ⟨by simp only; omega, fun t ht => by have := PL.tok_len hX t ht; omega⟩
    · obtain ⟨rfl, _, _⟩ := PL.lex_error hX he (by omega)
      exact ⟨by simp, fun t ht => by simp at ht⟩
  unfold RefLexEnd at hlx
  unfold ROpenEnd envOf sigOf
  generalize hX : PL.lex s.data.toList = X at *
  obtain ⟨ts, p, er⟩ := X
  obtain ⟨hc1, hc2⟩ := hcnt
  have HC1 := Lib.hid hc1
  have HC2 := Lib.hid hc2
  have HLX := Lib.hid hlx
  clear hX hlx hc1 hc2 hsl
  simp only [] at HLX HC1 HC2
  go_enter Tryz.func17, Tryz.ntmps17
  go_wp2_with fail
  refine HLX.out.mono ?_
  rintro e w1 ⟨v1, rfl, ho1, hb1⟩
  obtain ⟨A1, c1, rfl, hr1⟩ := own_rt11 ho1
  have HSO := Lib.hid (rsolid_toks A1 ts.length c1 ts w1 rfl hr1 HC1.out)
  clear ho1 hr1 HLX
  go_wp2_with fail
  refine HSO.out.mono ?_
  rintro e w2 ⟨A2, c2, rfl, hcap, hr2, hb2⟩
  have hB2 := hb1.trans (hb2.mono hb1.size)
  have HR2 := Lib.hid hr2
  have HB2 := Lib.hid hB2
  have HCAP := Lib.hid hcap
  clear hr2 hb1 hb2 hB2 HSO hcap
  go_wp2_with fail
  go_ret
  have hfl : (List.filter PL.solidT ts).length ≤ ts.length := List.length_filter_le _ _
  have hc1 := HC1.out
  have hsz : w2.heap.size < (w2.alloc (.cells #[.slice A2 (List.filter PL.solidT ts).length c2, .int .i64 (s.size : Int), .int .i64 (er : Int), .int .i64 (p : Int)] 63)).heap.size := by simp
  have hB := HB2.out.alloc HB2.out.size (.cells #[.slice A2 (List.filter PL.solidT ts).length c2, .int .i64 (s.size : Int), .int .i64 (er : Int), .int .i64 (p : Int)] 63)
  have hblk := Blk.new w2 63 #[.slice A2 (List.filter PL.solidT ts).length c2, .int .i64 (s.size : Int), .int .i64 (er : Int), .int .i64 (p : Int)]
  have hrt := HR2.out.below ((Below.refl w2.heap.size w2).alloc (Nat.le_refl _) (.cells #[.slice A2 (List.filter PL.solidT ts).length c2, .int .i64 (s.size : Int), .int .i64 (er : Int), .int .i64 (p : Int)] 63))
  by_cases h0 : (List.filter PL.solidT ts) = []
  · refine ⟨w2.heap.size, ⟨0, 0⟩, rfl, HB2.out.size, ⟨⟨0, c2, p, A2, ⟨Nat.zero_le _, HCAP.out, ?_, fun _ => rfl, fun _ => rfl, hblk⟩⟩, ?_, ?_, ?_, hsz⟩, hB⟩
    · intro h; simp [h0] at h
    · intro i t hi; simp [h0] at hi
    · show (List.filter PL.solidT ts).length ≤ 65536; omega
    · intro t ht; exact HC2.out t (List.mem_filter.1 ht).1
  · obtain ⟨g, o, hA, hlt, hc⟩ := HR2.out (by simpa using h0)
    obtain ⟨g', o', hA', hlt', hc'⟩ := hrt (by simpa using h0)
    rw [hA] at hA'
    injection hA' with hA'
    injection hA' with hg ho
    subst hg ho
    refine ⟨w2.heap.size, ⟨g, o⟩, rfl, HB2.out.size, ⟨⟨0, c2, p, A2, ⟨Nat.zero_le _, HCAP.out, ?_, fun _ => rfl, fun _ => rfl, hblk⟩⟩, ?_, ?_, ?_, hsz⟩, hB⟩
    · intro _; rw [hA]; simp
    · intro i t hi
      have hi' : ((List.filter PL.solidT ts).map rtOf)[i]? = some (rtOf t) := by rw [List.getElem?_map]; simp only [] at hi; rw [hi]; rfl
      exact ⟨by show g ≠ w2.heap.size; omega, hlt', hc' i _ hi'⟩
    · show (List.filter PL.solidT ts).length ≤ 65536; omega
    · intro t ht; exact HC2.out t (List.mem_filter.1 ht).1
end
end Go.Proofs.YtglaecalbamnkaaGreatDoor
