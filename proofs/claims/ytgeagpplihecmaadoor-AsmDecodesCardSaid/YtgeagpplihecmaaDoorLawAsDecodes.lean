/- The walk of AsmDecodes. -/
import Derived.Test.YtgeagpplihecmaaDoorAsL
import Derived.Test.YtgeagpplihecmaaDoorAsO
namespace Go.Proofs.YtgeagpplihecmaaDoor
open Go.RowKit
open AS (Ins)
theorem disL_cases : ∀ (ws : List Nat) (k : Nat) (acc : List Ins), (∃ L : List Ins, disL ws k acc = (acc ++ L, 0, 0) ∧ L.length = ws.length ∧ ∀ (j x : Nat), ws[j]? = some x → ∃ i, L[j]? = some i ∧ AS.dec x = some i) ∨
    (∃ p x, ws[p]? = some x ∧ disL ws k acc = ([], k + p, 3) ∧ AS.dec x = none ∧ ∀ (j y : Nat), j < p → ws[j]? = some y → ∃ i, AS.dec y = some i)
  | [], k, acc => .inl ⟨[], by simp [disL], rfl, fun j x h => by simp at h⟩
  | x :: ws, k, acc => by
    cases hd : AS.dec x with
    | none => exact .inr ⟨0, x, rfl, by simp [disL, hd], hd, fun j y h => absurd h (by omega)⟩
    | some i =>
      rcases disL_cases ws (k + 1) (acc ++ [i]) with ⟨L, h1, h2, h3⟩ | ⟨p, y, h1, h2, h3, h4⟩
      · refine .inl ⟨i :: L, by simp [disL, hd, h1], by simp [h2], fun j z hj => ?_⟩
        cases j with
        | zero => simp at hj; subst hj; exact ⟨i, rfl, hd⟩
        | succ j => obtain ⟨i', q1, q2⟩ := h3 j z (by simpa using hj); exact ⟨i', by simpa using q1, q2⟩
      · refine .inr ⟨p + 1, y, by simpa using h1, by simp [disL, hd, h2]; omega, h3, fun j z hj hz => ?_⟩
        cases j with
        | zero => simp at hz; subst hz; exact ⟨i, hd⟩
        | succ j => exact h4 j z (by omega) (by simpa using hz)
theorem disR_cases (ws : List Nat) (h : ws.length ≤ 4096) : (∃ L : List Ins, disR ws = (L, 0, 0) ∧ L.length = ws.length ∧ ∀ (j x : Nat), ws[j]? = some x → ∃ i, L[j]? = some i ∧ AS.dec x = some i) ∨
    (∃ p x, ws[p]? = some x ∧ disR ws = ([], p, 3) ∧ AS.dec x = none ∧ ∀ (j y : Nat), j < p → ws[j]? = some y → ∃ i, AS.dec y = some i) := by
  unfold disR
  rw [if_neg (by omega)]
  simpa using disL_cases ws 0 []
/-- What is disassembled is assembled to the same words. -/
theorem asm_dis {ws : List Nat} {L : List Ins} (h : ws.length ≤ 4096) (hl : L.length = ws.length) (hd : ∀ (j x : Nat), ws[j]? = some x → ∃ i, L[j]? = some i ∧ AS.dec x = some i) : asmR L = (ws, 0) ∧ ∀ i ∈ L, i.op ≤ 255 := by
  have hat : ∀ (j : Nat) i, L[j]? = some i → AS.valid i = true ∧ ws[j]? = some (AS.enc i) := by
    intro j i hj
    have hlt := (List.getElem?_eq_some_iff.1 hj).1
    obtain ⟨x, hx⟩ : ∃ x, ws[j]? = some x := ⟨_, List.getElem?_eq_getElem (by omega)⟩
    obtain ⟨i', h1, h2⟩ := hd j x hx
    obtain rfl : i = i' := Option.some.inj (hj.symm.trans h1)
    obtain ⟨h3, h4⟩ := AS.dec_some h2
    exact ⟨h3, by rw [h4]; exact hx⟩
  have hall : L.all AS.valid = true := List.all_eq_true.2 fun i hi => by
    obtain ⟨j, hj⟩ := List.mem_iff_getElem?.1 hi
    exact (hat j i hj).1
  refine ⟨?_, fun i hi => ?_⟩
  · unfold asmR
    rw [if_neg (by omega), if_pos hall]
    congr 1
    apply List.ext_getElem?
    intro j
    rw [List.getElem?_map]
    rcases hL : L[j]? with _ | i
    · rw [List.getElem?_eq_none_iff] at hL
      rw [List.getElem?_eq_none (by omega)]; rfl
    · rw [(hat j i hL).2]; rfl
  · have := AS.valid_lt (List.all_eq_true.1 hall i hi)
    omega
section
set_option maxHeartbeats 2000000
set_option maxRecDepth 100000
theorem asmdecodes_walk (A : Option Addr) (n c : Nat) (ws : List Nat) (w : World) (hF : FmtIs w) (hP : PowIs w) (hM : MaxIs w) (hN : ws.length = n) (hlm : n ≤ maxLen) (ho : ∀ x ∈ ws, x ≤ 4294967295) (hr : Row w A (u32Cells ws)) :
    Calls Tryd.prog 10 #[.slice A n c] w fun e w' => e = .returned (.bool true) ∧ Below w.heap.size w w' := by
  have hnot : ∀ (x : Bool) (w : World), (Op.unary .not (.bool x)).run Tryd.prog w = .ok (.bool (!x)) w := fun _ _ => rfl
  have HN := Lib.hid hN
  have HF := Lib.hid hF
  have HA := Lib.hid (awake_any w hF hM hP)
  have HR := Lib.hid hr
  have HO := Lib.hid ho
  clear hF hP hM hN hr ho
  by_cases hbig : 40 < n
  · have e1 : decide ((40 : Int) < (n : Int)) = true := by simp; omega
    go_enter Tryd.func10, Tryd.ntmps10
    go_wp2_with fail
    refine HA.out.mono ?_
    rintro e w1 ⟨rfl, hb1⟩
    go_wp2_with fail
    go_ret
    exact ⟨rfl, hb1⟩
  have e1 : decide ((40 : Int) < (n : Int)) = false := by simp; omega
  go_enter Tryd.func10, Tryd.ntmps10
  go_wp2_with fail
  refine HA.out.mono ?_
  rintro e w1 ⟨rfl, hb1⟩
  have HB1 := Lib.hid hb1
  have HDI := Lib.hid (disassemble_any ws A n c w1 HN.out (by omega) (HR.out.below hb1) (fun x hx => by have := HO.out x hx; omega) (HF.out.below hb1))
  clear hb1 HA
  rcases disR_cases ws (by rw [HN.out]; omega) with ⟨L, hR, hL, hd⟩ | ⟨p, x, hx, hR, hdx, hd⟩
  · rw [hR] at HDI
    have HD := Lib.hid hd
    have HL := Lib.hid hL
    obtain ⟨ha, hop⟩ := asm_dis (by rw [HN.out]; omega) hL hd
    have HAS := Lib.hid ha
    have HOP := Lib.hid hop
    clear hd hL ha hop hR
    go_wp2_with fail
    refine HDI.out.mono ?_
    rintro e w2 ⟨A2, n2, c2, rfl, hn2, hr2, hb2⟩
    have hn2' : n2 = n := hn2.trans (HL.out.trans HN.out)
    clear hn2
    subst hn2'
    have HR2 := Lib.hid (show Row w2 A2 (insCells L) from hr2)
    have HB2 := Lib.hid (HB1.out.trans (hb2.mono HB1.out.size))
    clear hr2 hb2 HDI
    go_wp2_with fail
    go_loopw [6] (fun i wr => ∃ k : Nat, k ≤ n2 ∧ i = .int .i64 (k : Int) ∧ Below w2.heap.size w2 wr) (fun i _ => n2 - (intOf i).toNat)
    case atStart => exact ⟨0, Nat.zero_le _, rfl, Below.refl _ _⟩
    case round =>
      obtain ⟨k, hk, rfl, hbw⟩ := hrel
      have HB := Lib.hid hbw
      by_cases hlt : k < n2
      · obtain ⟨x, hx⟩ : ∃ x, ws[k]? = some x := ⟨_, List.getElem?_eq_getElem (by rw [HN.out]; exact hlt)⟩
        obtain ⟨i, hi, hdi⟩ := HD.out k x hx
        have hx32 := HO.out x (List.mem_of_getElem? hx)
        obtain ⟨rb, ro, hA, hrb, c0⟩ := (HR.out.below (HB2.out.trans (hbw.mono HB2.out.size))).u32 hx
        subst hA
        have HDE := Lib.hid (decode_any x (by omega) wr (HF.out.below (HB2.out.trans (hbw.mono HB2.out.size))))
        rw [show decR x = (i, 0) by unfold decR; rw [hdi]] at HDE
        have HI := Lib.hid hi
        have q0 : (k : Int) < (n2 : Int) := by omega
        have q1 : decide ((n2 : Int) ≤ (k : Int)) = false := by simp; omega
        clear hrb hbw hx hi hdi
        go_wp2_with fail
        refine HDE.out.mono ?_
        rintro e w4 ⟨rfl, hb4⟩
        rw [show insV (i, 0).1 = #[.int .u8 (i.op : Int), .int .i64 i.a, .int .i64 i.b, .int .i64 i.c, .int .i64 i.imm] from rfl]
        have HB4 := Lib.hid (HB.out.trans (hb4.mono HB.out.size))
        obtain ⟨rb2, ro2, hA2, hrb2, d0, d1, d2, d3, d4⟩ := (HR2.out.below (HB4.out.alloc HB4.out.size (.cells #[.int .u8 (i.op : Int), .int .i64 i.a, .int .i64 i.b, .int .i64 i.c, .int .i64 i.imm] 48))).ins HI.out
        subst hA2
        have hbl := Blk.new w4 48 #[.int .u8 (i.op : Int), .int .i64 i.a, .int .i64 i.b, .int .i64 i.c, .int .i64 i.imm]
        have g0 : (w4.alloc (.cells #[.int .u8 (i.op : Int), .int .i64 i.a, .int .i64 i.b, .int .i64 i.c, .int .i64 i.imm] 48)).cell? ⟨w4.heap.size, 0, none⟩ = some (.int .u8 (i.op : Int)) := hbl.cell 0
        have g1 : (w4.alloc (.cells #[.int .u8 (i.op : Int), .int .i64 i.a, .int .i64 i.b, .int .i64 i.c, .int .i64 i.imm] 48)).cell? ⟨w4.heap.size, 1, none⟩ = some (.int .i64 i.a) := hbl.cell 1
        have g2 : (w4.alloc (.cells #[.int .u8 (i.op : Int), .int .i64 i.a, .int .i64 i.b, .int .i64 i.c, .int .i64 i.imm] 48)).cell? ⟨w4.heap.size, 2, none⟩ = some (.int .i64 i.b) := hbl.cell 2
        have g3 : (w4.alloc (.cells #[.int .u8 (i.op : Int), .int .i64 i.a, .int .i64 i.b, .int .i64 i.c, .int .i64 i.imm] 48)).cell? ⟨w4.heap.size, 3, none⟩ = some (.int .i64 i.c) := hbl.cell 3
        have g4 : (w4.alloc (.cells #[.int .u8 (i.op : Int), .int .i64 i.a, .int .i64 i.b, .int .i64 i.c, .int .i64 i.imm] 48)).cell? ⟨w4.heap.size, 4, none⟩ = some (.int .i64 i.imm) := hbl.cell 4
        have q3 : ¬ (n2 : Int) ≤ (k : Int) := by omega
        clear hrb2 hb4 hbl
        have q2 : ((0 : Int) == 0) = true := rfl
        go_wp2_with fail
        go_quiet (fail)
        go_wp2_with fail
        exact ⟨⟨k + 1, by omega, by simp, (below_drewN (HB4.out.alloc HB4.out.size _) _)⟩, by simp [intOf]; omega⟩
      · have q1 : ¬ (k : Int) < (n2 : Int) := by omega
        have HB3 := Lib.hid (HB2.out.trans (HB.out.mono HB2.out.size))
        have HASS := Lib.hid (assemble_any L A2 n2 c2 wr (HL.out.trans HN.out) (by omega) (HR2.out.below HB.out) HOP.out (HF.out.below HB3.out))
        rw [HAS.out] at HASS
        have e4 : ((n2 : Int) != (n2 : Int)) = false := by simp
        go_wp2_with fail
        refine HASS.out.mono ?_
        rintro e w5 ⟨A5, n5, c5, rfl, hn5, hr5, hb5⟩
        have hn5' : n5 = n2 := hn5.trans HN.out
        clear hn5
        subst hn5'
        have HR5 := Lib.hid (show Row w5 A5 (u32Cells ws) from hr5)
        have HB5 := Lib.hid (HB3.out.trans (hb5.mono HB3.out.size))
        clear hr5 hb5
        go_wp2_with fail
        go_loopw [11] (fun i wr => ∃ k : Nat, k ≤ n5 ∧ i = .int .i64 (k : Int) ∧ Below w5.heap.size w5 wr) (fun i _ => n5 - (intOf i).toNat)
        case atStart => exact ⟨0, Nat.zero_le _, rfl, Below.refl _ _⟩
        case round =>
          obtain ⟨k, hk, rfl, hbw⟩ := hrel
          have HB6 := Lib.hid hbw
          by_cases hlt : k < n5
          · obtain ⟨x, hx⟩ : ∃ x, ws[k]? = some x := ⟨_, List.getElem?_eq_getElem (by rw [HN.out]; exact hlt)⟩
            obtain ⟨rb, ro, hA, hrb, c0⟩ := (HR.out.below (HB5.out.trans (hbw.mono HB5.out.size))).u32 hx
            obtain ⟨rb', ro', hA', hrb', d0⟩ := (HR5.out.below hbw).u32 hx
            subst hA hA'
            have q0 : (k : Int) < (n5 : Int) := by omega
            clear hbw hrb hrb'
            go_wp2_with fail
            go_region
            all_goals
              go_wp2_with fail
              exact ⟨⟨k + 1, by omega, by simp, HB6.out.drew⟩, by simp [intOf]; omega⟩
          · have q1 : ¬ (k : Int) < (n5 : Int) := by omega
            go_wp2_with fail
            go_ret
            exact ⟨rfl, HB5.out.trans (HB6.out.mono HB5.out.size)⟩
  · rw [hR] at HDI
    have HD := Lib.hid hd
    have hpn : p < n := by rw [← HN.out]; exact (List.getElem?_eq_some_iff.1 hx).1
    have HX := Lib.hid hx
    have HDX := Lib.hid hdx
    clear hd hx hR hdx
    go_wp2_with fail
    refine HDI.out.mono ?_
    rintro e w2 ⟨A2, n2, c2, rfl, rfl, hr2, hb2⟩
    have HB2 := Lib.hid (HB1.out.trans (hb2.mono HB1.out.size))
    clear hr2 hb2 HDI
    go_wp2_with fail
    go_loopw [6] (fun i wr => ∃ k : Nat, k ≤ p ∧ i = .int .i64 (k : Int) ∧ Below w2.heap.size w2 wr) (fun i _ => n - (intOf i).toNat)
    case atStart => exact ⟨0, Nat.zero_le _, rfl, Below.refl _ _⟩
    case round =>
      obtain ⟨k, hk, rfl, hbw⟩ := hrel
      have HB := Lib.hid hbw
      obtain ⟨y, hy⟩ : ∃ y, ws[k]? = some y := ⟨_, List.getElem?_eq_getElem (by rw [HN.out]; omega)⟩
      have hy32 := HO.out y (List.mem_of_getElem? hy)
      obtain ⟨rb, ro, hA, hrb, c0⟩ := (HR.out.below (HB2.out.trans (hbw.mono HB2.out.size))).u32 hy
      subst hA
      have HDE := Lib.hid (decode_any y (by omega) wr (HF.out.below (HB2.out.trans (hbw.mono HB2.out.size))))
      have q0 : (k : Int) < (n : Int) := by omega
      by_cases hkp : k = p
      · subst hkp
        obtain rfl : y = x := Option.some.inj (hy.symm.trans HX.out)
        rw [show decR y = (Ins.zero, 3) by unfold decR; rw [HDX.out]] at HDE
        clear hrb hbw hy
        go_wp2_with fail
        refine HDE.out.mono ?_
        rintro e w4 ⟨rfl, hb4⟩
        rw [show insV (Ins.zero, 3).1 = #[.int .u8 0, .int .i64 0, .int .i64 0, .int .i64 0, .int .i64 0] from rfl]
        have HB4 := Lib.hid (HB.out.trans (hb4.mono HB.out.size))
        clear hb4
        go_wp2_with fail
        go_ret
        exact ⟨rfl, HB2.out.trans ((HB4.out.alloc HB4.out.size _).mono HB2.out.size)⟩
      · obtain ⟨i, hdi⟩ := HD.out k y (by omega) hy
        rw [show decR y = (i, 0) by unfold decR; rw [hdi]] at HDE
        clear hrb hbw hy hdi
        go_wp2_with fail
        refine HDE.out.mono ?_
        rintro e w4 ⟨rfl, hb4⟩
        rw [show insV (i, 0).1 = #[.int .u8 (i.op : Int), .int .i64 i.a, .int .i64 i.b, .int .i64 i.c, .int .i64 i.imm] from rfl]
        have HB4 := Lib.hid (HB.out.trans (hb4.mono HB.out.size))
        clear hb4
        have q2 : ((3 : Int) == 0) = false := rfl
        go_wp2_with fail
        go_quiet (fail)
        go_wp2_with fail
        exact ⟨⟨k + 1, by omega, by simp, (below_drewN (HB4.out.alloc HB4.out.size _) _)⟩, by simp [intOf]; omega⟩
end
end Go.Proofs.YtgeagpplihecmaaDoor
