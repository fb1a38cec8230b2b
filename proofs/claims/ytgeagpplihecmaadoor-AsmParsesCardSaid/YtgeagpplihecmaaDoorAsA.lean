/- The contracts of package isa: field, position, Valid, Mnemonic. -/
import Derived.Test.YtgeagpplihecmaaDoorPlainAsm2
import Derived.Test.YtgeagpplihecmaaDoorBase
import Derived.Test.YtgeagpplihecmaaDoorShelf
import Derived.Lib.Hide
import Derived.PlainAid
import Derived.LoopTactic
import Derived.BigQuiet
import Derived.Deep.QuietTactic
import Derived.Deep.RegionHeld3
namespace Go.Proofs.YtgeagpplihecmaaDoor
open Go.RowKit
open AS (Ins)
/-- An instruction as a value. -/
def insV (i : Ins) : Array Value := #[.int .u8 (i.op : Int), .int .i64 i.a, .int .i64 i.b, .int .i64 i.c, .int .i64 i.imm]
def fmtRow (op : Nat) : List Value := [.string ⟨(AS.name op).toArray⟩, .string ⟨(AS.opers op).toArray⟩, .string ⟨(AS.reads op).toArray⟩, .bool (AS.writes op), .int .i64 (AS.lo op), .int .i64 (AS.hi op)]
def fmtCells : Array Value := ((List.range 30).flatMap fmtRow).toArray
/-- The table of the formats. -/
def FmtIs (w : World) : Prop := ∃ (t : TypeId) (fr : Nat × Nat), w.heap[0]? = some (.cells fmtCells t fr)
theorem fmtRow_at : ∀ (l : List Nat) (i op j : Nat), l[i]? = some op → j < 6 → (l.flatMap fmtRow)[i * 6 + j]? = (fmtRow op)[j]?
  | [], _, _, _, h, _ => by simp at h
  | x :: l, 0, op, j, h, hj => by
    simp at h; subst h
    rw [List.flatMap_cons, List.getElem?_append_left (by simp [fmtRow]; omega)]
    simp
  | x :: l, i + 1, op, j, h, hj => by
    have hl : (fmtRow x).length = 6 := rfl
    rw [List.flatMap_cons, List.getElem?_append_right (by omega), show (i + 1) * 6 + j - (fmtRow x).length = i * 6 + j from by omega]
    exact fmtRow_at l i op j (by simpa using h) hj
theorem fmt_at (op j : Nat) (h : op < 30) (hj : j < 6) : fmtCells[op * 6 + j]? = (fmtRow op)[j]? := by
  unfold fmtCells
  rw [List.getElem?_toArray]
  exact fmtRow_at _ op op j (by simp [h]) hj
theorem FmtIs.cell {w : World} (h : FmtIs w) (op j : Nat) (h1 : op < 30) (hj : j < 6) : w.cell? ⟨0, op * 6 + j, none⟩ = (fmtRow op)[j]? := by
  obtain ⟨t, fr, hb⟩ := h
  rw [cell_of_row w _ _ _ _ _ hb]
  exact fmt_at op j h1 hj
theorem FmtIs.lt {w : World} (h : FmtIs w) : 0 < w.heap.size := by
  obtain ⟨t, fr, hb⟩ := h
  exact (Array.getElem?_eq_some_iff.1 hb).1
theorem FmtIs.below {w w' : World} (h : FmtIs w) (hb : Below w.heap.size w w') : FmtIs w' := by
  have hlt := h.lt
  obtain ⟨t, fr, hs⟩ := h
  exact ⟨t, fr, (hb.block _ hlt).trans hs⟩
section
set_option maxHeartbeats 1000000
set_option maxRecDepth 100000
theorem field_any (b k : Nat) (hk : k ≤ 3) (w : World) : Calls Tryd.prog 39 #[.pointer (some ⟨b, 0, none⟩), .int .u8 ((AS.letter k).toNat : Int)] w fun e w' => e = .returned (.pointer (some ⟨b, k + 1, none⟩)) ∧ w = w' := by
  have h : k = 0 ∨ k = 1 ∨ k = 2 ∨ k = 3 := by omega
  rcases h with rfl | rfl | rfl | rfl
  all_goals
    first | rw [show ((AS.letter 0).toNat : Int) = 65 from rfl] | rw [show ((AS.letter 1).toNat : Int) = 66 from rfl] | rw [show ((AS.letter 2).toNat : Int) = 67 from rfl] | rw [show ((AS.letter 3).toNat : Int) = 73 from rfl]
    go_enter Tryd.func39, Tryd.ntmps39
    go_wp2_with fail
    go_ret
    exact ⟨rfl, rfl⟩
theorem mnemonic_any (op : Nat) (hop : op < 30) (w : World) (hF : FmtIs w) : Calls Tryd.prog 26 #[.int .u8 (op : Int)] w fun e w' => e = .returned (.string ⟨(AS.name op).toArray⟩) ∧ w = w' := by
  have c0 : w.cell? ⟨0, op * 6, none⟩ = some (.string ⟨(AS.name op).toArray⟩) := hF.cell op 0 hop (by decide)
  have p1 : (0 : Int) ≤ (op : Int) := by omega
  have p2 : (op : Int) < 30 := by omega
  have e1 : decide ((30 : Int) ≤ (op : Int)) = false := by simp; omega
  have e2 : decide (30 ≤ op) = false := by simp; omega
  clear hF
  go_enter Tryd.func26, Tryd.ntmps26
  go_wp2_with fail
  go_ret
  exact ⟨rfl, rfl⟩
def posn (k : Nat) : Int × Int := if k = 0 then (22, 4) else if k = 1 then (18, 4) else if k = 2 then (14, 4) else (0, 18)
theorem position_any (k : Nat) (hk : k ≤ 3) (w : World) : Calls Tryd.prog 38 #[.int .u8 ((AS.letter k).toNat : Int)] w fun e w' => e = .returned (.tuple #[.int .i64 (posn k).1, .int .i64 (posn k).2]) ∧ w = w' := by
  have h : k = 0 ∨ k = 1 ∨ k = 2 ∨ k = 3 := by omega
  rcases h with rfl | rfl | rfl | rfl
  all_goals
    first | rw [show ((AS.letter 0).toNat : Int) = 65 from rfl] | rw [show ((AS.letter 1).toNat : Int) = 66 from rfl] | rw [show ((AS.letter 2).toNat : Int) = 67 from rfl] | rw [show ((AS.letter 3).toNat : Int) = 73 from rfl]
    go_enter Tryd.func38, Tryd.ntmps38
    go_wp2_with fail
    go_ret2
    exact ⟨rfl, rfl⟩
theorem index_opers : ∀ op : Fin 30, ∀ k : Fin 4, decide ((0 : Int) ≤ Lib.indexByte (AS.opers op.val) (AS.letter k.val)) = (AS.shape op.val).contains k.val := by decide +kernel
/-- What Valid's loop knows. -/
theorem valid_any (i : Ins) (hop : i.op ≤ 255) (w : World) (hF : FmtIs w) : Calls Tryd.prog 24 #[.agg (insV i)] w fun e w' => e = .returned (.bool (AS.valid i)) ∧ Below w.heap.size w w' := by
  have hb1 : Below w.heap.size w (w.alloc (.cells (insV i) 48)) := (Below.refl _ _).alloc (Nat.le_refl _) _
  have hk1 := Blk.new w 48 (insV i)
  have hv : AS.valid i = (decide (i.op < 30) && (AS.inside i 0 && (AS.inside i 1 && (AS.inside i 2 && AS.inside i 3)))) := rfl
  have hF1 := hF.below hb1
  by_cases h30 : i.op < 30
  · have e2 : decide (30 ≤ i.op) = false := by simp; omega
    have e1 : decide ((30 : Int) ≤ (i.op : Int)) = false := by simp; omega
    have p1 : (0 : Int) ≤ (i.op : Int) := by omega
    have p2 : (i.op : Int) < 30 := by omega
    have x0 : (w.alloc (.cells (insV i) 48)).cell? ⟨w.heap.size, 0, none⟩ = some (.int .u8 (i.op : Int)) := hk1.cell 0
    have c0 := hF1.cell i.op 0 h30 (by decide)
    have c1 := hF1.cell i.op 1 h30 (by decide)
    have c2 := hF1.cell i.op 2 h30 (by decide)
    have c3 := hF1.cell i.op 3 h30 (by decide)
    have c4 := hF1.cell i.op 4 h30 (by decide)
    have c5 := hF1.cell i.op 5 h30 (by decide)
    simp only [fmtRow, List.getElem?_cons_zero, List.getElem?_cons_succ, Nat.add_zero] at c0 c1 c2 c3 c4 c5
    have hb2 := hb1.alloc hb1.size (.cells #[.string ⟨(AS.name i.op).toArray⟩, .string ⟨(AS.opers i.op).toArray⟩, .string ⟨(AS.reads i.op).toArray⟩, .bool (AS.writes i.op), .int .i64 (AS.lo i.op), .int .i64 (AS.hi i.op)] 83)
    have hk2 := blk_second w 48 83 (insV i) #[.string ⟨(AS.name i.op).toArray⟩, .string ⟨(AS.opers i.op).toArray⟩, .string ⟨(AS.reads i.op).toArray⟩, .bool (AS.writes i.op), .int .i64 (AS.lo i.op), .int .i64 (AS.hi i.op)]
    have HV := Lib.hid hv
    have HB2 := Lib.hid hb2
    have hk1' := hk1.alloc (.cells #[.string ⟨(AS.name i.op).toArray⟩, .string ⟨(AS.opers i.op).toArray⟩, .string ⟨(AS.reads i.op).toArray⟩, .bool (AS.writes i.op), .int .i64 (AS.lo i.op), .int .i64 (AS.hi i.op)] 83)
    have HK1 := Lib.hid hk1'
    have HK2 := Lib.hid hk2
    clear hv hF hF1 hb1 hb2 hk1 hk1' hk2
    go_enter Tryd.func24, Tryd.ntmps24
    go_wp2_with fail
    clear c0 c1 c2 c3 c4 c5 x0 e1 e2
    generalize ((w.alloc (.cells (insV i) 48)).alloc (.cells #[.string ⟨(AS.name i.op).toArray⟩, .string ⟨(AS.opers i.op).toArray⟩, .string ⟨(AS.reads i.op).toArray⟩, .bool (AS.writes i.op), .int .i64 (AS.lo i.op), .int .i64 (AS.hi i.op)] 83)) = w2 at *
    go_loopw [16] (fun v wr => ∃ k : Nat, k ≤ 4 ∧ v = .int .i64 (k : Int) ∧ (∀ j, j < k → AS.inside i j = true) ∧ ∃ n, wr = w2.drewN n) (fun v _ => 4 - (intOf v).toNat)
    case atStart => exact ⟨0, by omega, rfl, fun j hj => by omega, 0, rfl⟩
    case round =>
      obtain ⟨k, hk, rfl, hin, n, hw⟩ := hrel
      have hk2 : Blk wr _ _ _ := hw ▸ HK2.out.drewN n
      have HW := Lib.hid hw
      clear hw
      have y1 := hk2.cell 1
      have y4 := hk2.cell 4
      have y5 := hk2.cell 5
      simp only [List.getElem?_toArray, List.getElem?_cons_zero, List.getElem?_cons_succ] at y1 y4 y5
      clear hk2
      by_cases hlt : k < 4
      · have q1 : (k : Int) < 4 := by omega
        have hL : ∀ h, (⟨#[65, 66, 67, 73]⟩ : ByteArray)[k]'h = AS.letter k := fun h => by
          have : ∀ m : Fin 4, (⟨#[65, 66, 67, 73]⟩ : ByteArray)[m.val]'(m.isLt) = AS.letter m.val := by decide
          exact this ⟨k, hlt⟩
        have hx := index_opers ⟨i.op, h30⟩ ⟨k, hlt⟩
        simp only at hx
        have HIX := Lib.hid (show ∀ W, Calls Tryd.prog 40 #[.string ⟨(AS.opers i.op).toArray⟩, .int .u8 ((AS.letter k).toNat : Int)] W fun e w' => e = .returned (.int .i64 (Lib.indexByte (AS.opers i.op) (AS.letter k))) ∧ W = w' from fun W => (Tryd.strings_IndexByte ⟨(AS.opers i.op).toArray⟩ ((AS.letter k).toNat : Int) W).mono fun e w' ⟨h1, h2⟩ => ⟨by rw [h1]; simp, h2.symm⟩)
        have hz : ∀ q, (wr.drewN q).cell? ⟨w.heap.size, k + 1, none⟩ = some (.int .i64 (i.get k)) := fun q => by
          rw [HW.out, ((HK1.out.drewN n).drewN q).cell (k + 1)]
          have : k = 0 ∨ k = 1 ∨ k = 2 ∨ k = 3 := by omega
          rcases this with rfl | rfl | rfl | rfl <;> rfl
        have hz0 := hz 0
        rw [show wr.drewN 0 = wr from rfl] at hz0
        have HZ := Lib.hid hz
        have HFI := Lib.hid (fun W => field_any w.heap.size k (by omega) W)
        have hlet : (((AS.letter k).toNat : Int) == 73) = decide (k = 3) := by
          have : ∀ m : Fin 4, (((AS.letter m.val).toNat : Int) == 73) = decide (m.val = 3) := by decide
          exact this ⟨k, hlt⟩
        have hins := AS.inside_eq i k
        have hvn := AS.valid_no (i := i) hlt
        generalize Lib.indexByte (AS.opers i.op) (AS.letter k) = ix at *
        have HIN := Lib.hid hin
        clear hz hin
        cases hc : (AS.shape i.op).contains k with
        | false =>
          rw [hc] at hx hins
          simp only [Bool.false_eq_true, if_false] at hins
          have e3 : decide ((0 : Int) ≤ ix) = false := hx
          have HINS := Lib.hid hins
          have HVN := Lib.hid hvn
          clear hx hc hins hvn y4 y5 hlet
          generalize i.get k = v at *
          go_wp2_with fail
          refine (HIX.out _).mono ?_
          rintro e w3 ⟨rfl, rfl⟩
          go_wp2_with fail
          refine (HFI.out _).mono ?_
          rintro e w3 ⟨rfl, rfl⟩
          by_cases h1 : v < 0
          · have g1 : decide (v < 0) = true := by simpa using h1
            have HNO := Lib.hid (HVN.out (by rw [HINS.out, show decide (0 ≤ v) = false from by simpa using h1]; rfl))
            go_wp2_with fail
            go_ret
            exact ⟨by rw [HNO.out]; rfl, HB2.out.trans (by rw [HW.out]; first | exact below_drewN (Below.refl _ _) _ | exact below_drewN (below_drewN (Below.refl _ _) _) _)⟩
          · have g1 : decide (v < 0) = false := by simpa using h1
            by_cases h2 : 0 < v
            · have g2 : decide (0 < v) = true := by simpa using h2
              have HNO := Lib.hid (HVN.out (by rw [HINS.out, show decide (v ≤ 0) = false from by simpa using h2, Bool.and_false]))
              go_wp2_with fail
              go_ret
              exact ⟨by rw [HNO.out]; rfl, HB2.out.trans (by rw [HW.out]; first | exact below_drewN (Below.refl _ _) _ | exact below_drewN (below_drewN (Below.refl _ _) _) _)⟩
            · have g2 : decide (0 < v) = false := by simpa using h2
              have HYES := Lib.hid (show AS.inside i k = true from by rw [HINS.out, show decide (0 ≤ v) = true from by simp; omega, show decide (v ≤ 0) = true from by simp; omega]; rfl)
              go_wp2_with fail
              go_roundw
              case rel => exact ⟨k + 1, by omega, by go_num, fun j hj => by
                  rcases Nat.lt_or_ge j k with h | h
                  · exact HIN.out j h
                  · obtain rfl : j = k := by omega
                    exact HYES.out, _, HW.out⟩
              case measure => simp [intOf]; omega
        | true =>
          rw [hc] at hx hins
          simp only [if_true] at hins
          have e3 : decide ((0 : Int) ≤ ix) = true := hx
          by_cases h3 : k = 3
          · have e5 : (((AS.letter k).toNat : Int) == 73) = true := by rw [hlet]; simpa using h3
            simp only [h3, if_true] at hins
            rw [show (3 : Nat) = k from h3.symm] at hins
            have HINS := Lib.hid hins
            have HVN := Lib.hid hvn
            clear hx hc hins hvn hlet h3
            generalize AS.lo i.op = low at *
            generalize AS.hi i.op = high at *
            generalize i.get k = v at *
            go_wp2_with fail
            refine (HIX.out _).mono ?_
            rintro e w3 ⟨rfl, rfl⟩
            go_wp2_with fail
            go_quiet (fail)
            have hz1 := HZ.out nq
            go_wp2_with fail
            refine (HFI.out _).mono ?_
            rintro e w3 ⟨rfl, rfl⟩
            by_cases h1 : v < low
            · have g1 : decide (v < low) = true := by simpa using h1
              have HNO := Lib.hid (HVN.out (by rw [HINS.out, show decide (low ≤ v) = false from by simpa using h1]; rfl))
              go_wp2_with fail
              go_ret
              exact ⟨by rw [HNO.out]; rfl, HB2.out.trans (by rw [HW.out]; first | exact below_drewN (Below.refl _ _) _ | exact below_drewN (below_drewN (Below.refl _ _) _) _)⟩
            · have g1 : decide (v < low) = false := by simpa using h1
              by_cases h2 : high < v
              · have g2 : decide (high < v) = true := by simpa using h2
                have HNO := Lib.hid (HVN.out (by rw [HINS.out, show decide (v ≤ high) = false from by simpa using h2, Bool.and_false]))
                go_wp2_with fail
                go_ret
                exact ⟨by rw [HNO.out]; rfl, HB2.out.trans (by rw [HW.out]; first | exact below_drewN (Below.refl _ _) _ | exact below_drewN (below_drewN (Below.refl _ _) _) _)⟩
              · have g2 : decide (high < v) = false := by simpa using h2
                have HYES := Lib.hid (show AS.inside i k = true from by rw [HINS.out, show decide (low ≤ v) = true from by simp; omega, show decide (v ≤ high) = true from by simp; omega]; rfl)
                go_wp2_with fail
                go_roundw
                case rel => exact ⟨k + 1, by omega, by go_num, fun j hj => by
                    rcases Nat.lt_or_ge j k with h | h
                    · exact HIN.out j h
                    · obtain rfl : j = k := by omega
                      exact HYES.out, _, by rw [HW.out, World.drewN_drewN]⟩
                case measure => simp [intOf]; omega
          · have e5 : (((AS.letter k).toNat : Int) == 73) = false := by rw [hlet]; simpa using h3
            simp only [h3, if_false] at hins
            have HINS := Lib.hid hins
            have HVN := Lib.hid hvn
            clear hx hc hins hvn y4 y5 hlet h3
            generalize i.get k = v at *
            go_wp2_with fail
            refine (HIX.out _).mono ?_
            rintro e w3 ⟨rfl, rfl⟩
            go_wp2_with fail
            refine (HFI.out _).mono ?_
            rintro e w3 ⟨rfl, rfl⟩
            by_cases h1 : v < 0
            · have g1 : decide (v < 0) = true := by simpa using h1
              have HNO := Lib.hid (HVN.out (by rw [HINS.out, show decide (0 ≤ v) = false from by simpa using h1]; rfl))
              go_wp2_with fail
              go_ret
              exact ⟨by rw [HNO.out]; rfl, HB2.out.trans (by rw [HW.out]; first | exact below_drewN (Below.refl _ _) _ | exact below_drewN (below_drewN (Below.refl _ _) _) _)⟩
            · have g1 : decide (v < 0) = false := by simpa using h1
              by_cases h2 : 15 < v
              · have g2 : decide (15 < v) = true := by simpa using h2
                have HNO := Lib.hid (HVN.out (by rw [HINS.out, show decide (v ≤ 15) = false from by simpa using h2, Bool.and_false]))
                go_wp2_with fail
                go_ret
                exact ⟨by rw [HNO.out]; rfl, HB2.out.trans (by rw [HW.out]; first | exact below_drewN (Below.refl _ _) _ | exact below_drewN (below_drewN (Below.refl _ _) _) _)⟩
              · have g2 : decide (15 < v) = false := by simpa using h2
                have HYES := Lib.hid (show AS.inside i k = true from by rw [HINS.out, show decide (0 ≤ v) = true from by simp; omega, show decide (v ≤ 15) = true from by simp; omega]; rfl)
                go_wp2_with fail
                go_roundw
                case rel => exact ⟨k + 1, by omega, by go_num, fun j hj => by
                    rcases Nat.lt_or_ge j k with h | h
                    · exact HIN.out j h
                    · obtain rfl : j = k := by omega
                      exact HYES.out, _, HW.out⟩
                case measure => simp [intOf]; omega
      · obtain rfl : k = 4 := by omega
        have HYES := Lib.hid (AS.valid_yes h30 hin)
        clear hin
        go_wp2_with fail
        go_ret
        exact ⟨by rw [HYES.out]; rfl, HB2.out.trans (by rw [HW.out]; first | exact below_drewN (Below.refl _ _) _ | exact below_drewN (below_drewN (Below.refl _ _) _) _)⟩
  · have e2 : decide (30 ≤ i.op) = true := by simp; omega
    have e1 : decide ((30 : Int) ≤ (i.op : Int)) = true := by simp; omega
    have x0 : (w.alloc (.cells (insV i) 48)).cell? ⟨w.heap.size, 0, none⟩ = some (.int .u8 (i.op : Int)) := hk1.cell 0
    have HB1 := Lib.hid hb1
    have HV := Lib.hid (show AS.valid i = false from by rw [hv]; simp [h30])
    clear hv hF hF1 hb1 hk1 h30
    go_enter Tryd.func24, Tryd.ntmps24
    go_wp2_with fail
    go_ret
    exact ⟨by rw [HV.out]; rfl, HB1.out⟩
end
end Go.Proofs.YtgeagpplihecmaaDoor
