/- LexerSolid: Solid keeps exactly the tokens that are neither spaces nor comments. -/
import Derived.Test.YtgacfcdpgcpjeaaDoorLexD
import Derived.Test.YtgacfcdpgcpjeaaDoorJoin
namespace Go.Proofs.YtgacfcdpgcpjeaaDoor
open Go.RowKit

def quest (r : RT) : RT := ⟨r.k, ⟨#[63]⟩, r.p⟩
/-- The row of the solid tokens after the first k texts were overwritten. -/
def rowQ (M : List RT) (k : Nat) : List Value := ((M.take k).map quest ++ M.drop k).flatMap RT.cells
theorem rowQ_zero (M : List RT) : rowQ M 0 = M.flatMap RT.cells := by simp [rowQ]
theorem rowQ_at {M : List RT} {k : Nat} {r : RT} (h : M[k]? = some r) :
    (rowQ M k)[k * 3]? = some (.int .u8 r.k) ∧ (rowQ M k)[k * 3 + 1]? = some (.string r.s) ∧ (rowQ M k)[k * 3 + 2]? = some (.int .i64 r.p) := by
  obtain ⟨hk, rfl⟩ := List.getElem?_eq_some_iff.1 h
  refine rtCells_at ?_
  rw [List.getElem?_append_right (by simp; omega)]
  simp [Nat.min_eq_left (Nat.le_of_lt hk)]
theorem set_flat (x : List Value) : ∀ (a : List RT) (r : RT) (b : List RT), ((a ++ r :: b).flatMap RT.cells ++ x).set (a.length * 3 + 1) (.string ⟨#[63]⟩) = (a ++ quest r :: b).flatMap RT.cells ++ x
  | [], r, b => by simp [RT.cells, quest]
  | y :: a, r, b => by
    have ih := set_flat x a r b
    rw [List.cons_append, List.flatMap_cons, List.cons_append, List.flatMap_cons, List.append_assoc, List.append_assoc, List.set_append]
    have hl : (RT.cells y).length = 3 := rfl
    rw [if_neg (by rw [hl]; simp; omega), hl, show (y :: a).length * 3 + 1 - 3 = a.length * 3 + 1 from by simp; omega, ih]
theorem rowQ_step {M : List RT} {k : Nat} {r : RT} (h : M[k]? = some r) : (rowQ M k).set (k * 3 + 1) (.string ⟨#[63]⟩) = rowQ M (k + 1) := by
  obtain ⟨hk, rfl⟩ := List.getElem?_eq_some_iff.1 h
  unfold rowQ
  rw [List.drop_eq_getElem_cons hk, List.take_succ_eq_append_getElem hk, List.map_append]
  have := set_flat [] ((M.take k).map quest) M[k] (M.drop (k + 1))
  simp only [List.append_nil, List.length_map, List.length_take, Nat.min_eq_left (Nat.le_of_lt hk)] at this
  rw [this]; simp
theorem rowQ_length (M : List RT) (k : Nat) : (rowQ M k).length = M.length * 3 := by
  unfold rowQ; rw [rtCells_length]; simp; omega
/-- The solid tokens of the first i tokens, and the next one. -/
theorem solid_at (rs : List RT) (i : Nat) (r : RT) (h : rs[i]? = some r) (hs : solidB r = true) : (solidRT rs)[(solidRT (rs.take i)).length]? = some r := by
  obtain ⟨hi, rfl⟩ := List.getElem?_eq_some_iff.1 h
  have e : solidRT rs = solidRT (rs.take i) ++ rs[i] :: solidRT (rs.drop (i + 1)) := by
    have h1 : rs = rs.take i ++ rs[i] :: rs.drop (i + 1) := by rw [← List.drop_eq_getElem_cons hi, List.take_append_drop]
    have h2 : solidRT rs = solidRT (rs.take i ++ rs[i] :: rs.drop (i + 1)) := congrArg solidRT h1
    rw [h2]
    unfold solidRT
    rw [List.filter_append, List.filter_cons, if_pos hs]
  rw [e]; simp

section
set_option maxHeartbeats 800000
set_option maxRecDepth 100000
theorem solid_short (A : Option Addr) (n c : Nat) (rs : List RT) (w : World) (hg : SignsIs w) (hN : rs.length = n) (h : RToks w A rs) (hn : n ≤ 60) :
    Calls Tryd.prog 10 #[.slice A n c] w fun e w' => e = .returned (.bool true) ∧ Below w.heap.size w w' := by
  have HN := Lib.hid hN
  clear hN
  have hne0 : ∀ k : Nat, k < n → rs ≠ [] := by rintro k hk rfl; have := HN.out; simp at this; omega
  have HNE := Lib.hid hne0
  clear hne0
  go_enter Tryd.func10, Tryd.ntmps10
  go_wp2_with fail
  refine (awake_any _ hg).mono ?_
  rintro e w1 ⟨rfl, hb1⟩
  go_wp2_with fail
  go_loopw [3, 20] (fun x i wr => ∃ k : Nat, k ≤ n ∧ i = .int .i64 k ∧ x = .string ⟨(joinText (rs.take k)).toArray⟩ ∧ (joinText (rs.take k)).length ≤ 60 * k ∧ Below w.heap.size w wr) (fun _ i _ => n - (intOf i).toNat)
  case atStart => exact ⟨0, Nat.zero_le _, rfl, rfl, by simp [joinText], hb1⟩
  case round =>
    obtain ⟨k, hk, rfl, rfl, hjl, hbr⟩ := hrel
    have hszr := hbr.size
    by_cases hlt : k < n
    · obtain ⟨r, hr⟩ : ∃ r, rs[k]? = some r := ⟨_, List.getElem?_eq_getElem (by rw [HN.out]; exact hlt)⟩
      obtain ⟨b, o, rfl, hb, hc⟩ := h (HNE.out k hlt)
      obtain ⟨h0, h1, h2⟩ := hc k r hr
      have c0 := (hbr.cell (p := ⟨b, o + k * 3, none⟩) hb).trans h0
      have c1 := (hbr.cell (p := ⟨b, o + k * 3 + 1, none⟩) hb).trans h1
      have c2 := (hbr.cell (p := ⟨b, o + k * 3 + 2, none⟩) hb).trans h2
      have hj := joinText_take rs k r hr
      have HJ := Lib.hid hj
      clear hj h0 h1 h2 hc hr
      by_cases h60 : r.s.size ≤ 60
      · have hlen : (joinText (rs.take (k + 1))).length ≤ 60 * (k + 1) := by
          rw [HJ.out, List.length_append, ← Lib.size_eq]; omega
        have hcat : (⟨(joinText (rs.take k)).toArray⟩ : ByteArray) ++ r.s = ⟨(joinText (rs.take (k + 1))).toArray⟩ := by
          apply bytes_ext
          rw [HJ.out]
          simp [ByteArray.data_append]
        have HCAT := Lib.hid hcat
        have hjs : (⟨(joinText (rs.take k)).toArray⟩ : ByteArray).size ≤ 3600 := by
          show (joinText (rs.take k)).toArray.size ≤ _
          simp only [List.size_toArray]; omega
        clear hcat
        generalize hJ1 : (⟨(joinText (rs.take k)).toArray⟩ : ByteArray) = J1 at *
        go_wp2_with fail
        rw [HCAT.out]
        go_roundw
        case rel => exact ⟨k + 1, by omega, by go_num, rfl, hlen, hbr.alloc hszr _⟩
        case measure => simp [intOf]; omega
      · go_wp2_with fail
        go_ret
        exact ⟨rfl, hbr.alloc hszr _⟩
    · obtain rfl : k = n := by omega
      have htk : rs.take k = rs := List.take_of_length_le (by rw [HN.out]; exact Nat.le_refl _)
      rw [htk] at hjl ⊢
      clear htk
      have hjs : (⟨(joinText rs).toArray⟩ : ByteArray).size ≤ 3600 := by
        show (joinText rs).toArray.size ≤ _
        simp only [List.size_toArray]; omega
      have hjoin : ∀ W, Below w.heap.size w W → Calls Tryd.prog 22 #[.slice A k c] W fun e w' => e = .returned (.string ⟨(joinText rs).toArray⟩) ∧ Below W.heap.size W w' :=
        fun W hW => join_any A k c rs W HN.out (h.below hW) (by omega) (by omega)
      generalize hJ : (⟨(joinText rs).toArray⟩ : ByteArray) = J at *
      have HJOIN := Lib.hid hjoin
      clear hjoin hJ hjl
      go_wp2_with fail
      refine (HJOIN.out _ hbr).mono ?_
      rintro e w2 ⟨rfl, hb2⟩
      have hB2 := hbr.trans (hb2.mono hbr.size)
      clear hb2 hbr hszr
      go_wp2_with fail
      refine (solid_any A k c rs w2 HN.out (h.below hB2) (by omega)).mono ?_
      rintro e w3 ⟨v3, rfl, ho3, hb3⟩
      have hB3 := hB2.trans (hb3.mono hB2.size)
      have hbs := hB2.size
      have hlM : (solidRT rs).length ≤ k := by
        have := List.length_filter_le solidB rs
        unfold solidRT
        rw [← HN.out]; exact this
      have hTM : ∀ i, (solidRT (rs.take i)).length ≤ (solidRT rs).length := by
        intro i
        unfold solidRT
        exact (List.Sublist.filter solidB (List.take_sublist i rs)).length_le
      have hsat := fun i r h1 h2 => solid_at rs i r h1 h2
      have hstk := fun i r h1 => solid_take rs i r h1
      have hend : (solidRT (rs.take k)).length = (solidRT rs).length := by rw [List.take_of_length_le (by rw [HN.out]; exact Nat.le_refl _)]
      rw [← rowQ_zero] at ho3
      generalize hM : solidRT rs = M at *
      generalize hm : M.length = m at *
      have HSAT := Lib.hid hsat
      have HSTK := Lib.hid hstk
      have HTM := Lib.hid hTM
      have HEND := Lib.hid hend
      have Hm := Lib.hid hm
      clear hsat hstk hTM hend hM hm
      obtain ⟨A3, c3, rfl⟩ := own_form ho3
      go_wp2_with fail
      go_loopw [7, 41] (fun x i wr => ∃ j : Nat, j ≤ k ∧ i = .int .i64 j ∧ x = .int .i64 ((solidRT (rs.take j)).length : Nat) ∧ wr.ownsRow w2.heap.size 33 3 (.slice A3 m c3) m (rowQ M (solidRT (rs.take j)).length) ∧ Below w2.heap.size w2 wr) (fun _ i _ => k - (intOf i).toNat)
      case atStart => exact ⟨0, Nat.zero_le _, rfl, rfl, ho3, hb3⟩
      case round =>
        obtain ⟨j, hj, rfl, rfl, hown, hbr⟩ := hrel
        have hszr := hbr.size
        by_cases hlt : j < k
        · obtain ⟨r, hr⟩ : ∃ r, rs[j]? = some r := ⟨_, List.getElem?_eq_getElem (by rw [HN.out]; exact hlt)⟩
          obtain ⟨b, o, rfl, hb, hc⟩ := h (HNE.out j hlt)
          obtain ⟨h0, h1, h2⟩ := hc j r hr
          have hBr := hB2.trans (hbr.mono hbs)
          have c0 := (hBr.cell (p := ⟨b, o + j * 3, none⟩) hb).trans h0
          have c1 := (hBr.cell (p := ⟨b, o + j * 3 + 1, none⟩) hb).trans h1
          have c2 := (hBr.cell (p := ⟨b, o + j * 3 + 2, none⟩) hb).trans h2
          have hst := HSTK.out j r hr
          have hTj := HTM.out (j + 1)
          have hTj0 := HTM.out j
          cases hsb : solidB r with
          | false =>
            rw [hsb] at hst
            simp only [Bool.false_eq_true, if_false, List.append_nil] at hst
            have HST := Lib.hid hst
            clear hst h0 h1 h2 hc hr hTj
            rcases (show (r.k == 4) = true ∨ ((r.k == 4) = false ∧ (r.k == 5) = true) from by
              unfold solidB at hsb
              cases h4 : (r.k == 4) <;> cases h5 : (r.k == 5) <;> simp_all) with k4 | ⟨k4, k5⟩
            all_goals
              clear hsb
              go_wp2_with fail
              go_roundw
              case rel => exact ⟨j + 1, by omega, by go_num, by rw [HST.out], by rw [HST.out]; exact hown.alloc _, hbr.alloc hszr _⟩
              case measure => simp [intOf]; omega
          | true =>
            have hat := HSAT.out j r hr hsb
            rw [hsb] at hst
            simp only [if_true] at hst
            have hk4 : (r.k == 4) = false := by
              unfold solidB at hsb
              cases h4 : (r.k == 4) with
              | false => rfl
              | true => have : r.k = 4 := by simpa using h4
                        simp [this] at hsb
            have hk5 : (r.k == 5) = false := by
              unfold solidB at hsb
              cases h4 : (r.k == 5) with
              | false => rfl
              | true => have : r.k = 5 := by simpa using h4
                        simp [this] at hsb
            rw [hst, List.length_append, List.length_singleton] at hTj
            generalize hq : (solidRT (rs.take j)).length = q at *
            obtain ⟨d0, d1, d2⟩ := rowQ_at hat
            have hrs := rowQ_step hat
            obtain ⟨g, cap, hv, hg1, hg2, _, hcell⟩ := own_cells hown (by omega)
            injection hv with hA3 _ hcc
            subst hA3
            have x0 := hcell _ _ d0
            have x1 := hcell _ _ d1
            have x2 := hcell _ _ d2
            have hfz := hown.frozenAt (q * 3 + 1)
            have hsto := (World.ownsRow.stored (hown.alloc (.cells #[.int .u8 r.k, .string r.s, .int .i64 r.p] 33)) (q * 3 + 1) (.string ⟨#[63]⟩)).1
            rw [hrs] at hsto
            have hBst := (hbr.alloc hszr (.cells #[.int .u8 r.k, .string r.s, .int .i64 r.p] 33)).setCell (p := ⟨g, q * 3 + 1, none⟩) hg1 (.string ⟨#[63]⟩)
            have HSTO := Lib.hid hsto
            have HST := Lib.hid hst
            have p1 : (0 : Int) ≤ (q : Int) := by omega
            have p2 : (q : Int) < (m : Int) := by omega
            have p3 : decide (m ≤ q) = false := by simp; omega
            have p4 : decide ((m : Int) ≤ (q : Int)) = false := by simp; omega
            clear hst h0 h1 h2 hc hr hsb hat d0 d1 d2 hrs hcell hsto hown hcc
            have HQ := Lib.hid hq
            clear hq
            go_wp2_with fail
            go_quiet (fail)
            go_wp2_with fail
            go_roundw
            case rel => exact ⟨j + 1, by omega, by go_num, by rw [HST.out, List.length_append, HQ.out]; rfl, by rw [HST.out, List.length_append, HQ.out]; exact HSTO.out, below_drewN hBst _⟩
            case measure => simp [intOf]; omega
        · obtain rfl : j = k := by omega
          rw [HEND.out]
          have hBr := hB2.trans (hbr.mono hbs)
          clear hown
          go_wp2_with fail
          refine (HJOIN.out _ hBr).mono ?_
          rintro e w5 ⟨rfl, hb5⟩
          go_wp2_with fail
          go_ret
          exact ⟨rfl, hBr.trans (hb5.mono hBr.size)⟩
theorem solid_walk (A : Option Addr) (n c : Nat) (rs : List RT) (w : World) (hg : SignsIs w) (hN : rs.length = n) (h : RToks w A rs) :
    Calls Tryd.prog 10 #[.slice A n c] w fun e w' => e = .returned (.bool true) ∧ Below w.heap.size w w' := by
  by_cases hx : n ≤ 60
  · exact solid_short A n c rs w hg hN h hx
  · clear hN h
    go_enter Tryd.func10, Tryd.ntmps10
    go_wp2_with fail
    refine (awake_any _ hg).mono ?_
    rintro e w2 ⟨rfl, hb2⟩
    go_wp2_with fail
    refine (awake_any _ (hg.below hb2 hg.pos)).mono ?_
    rintro e w3 ⟨rfl, hb3⟩
    go_wp2_with fail
    go_ret
    exact ⟨rfl, hb2.trans (hb3.mono hb2.size)⟩
end
end Go.Proofs.YtgacfcdpgcpjeaaDoor
