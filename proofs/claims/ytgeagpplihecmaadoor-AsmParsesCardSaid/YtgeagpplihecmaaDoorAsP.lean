/- The contracts of the reference's Names, Shape, Decimal, Line, Format. -/
import Derived.Test.YtgeagpplihecmaaDoorAsL
import Derived.Deep.RegionLaw
namespace Go.Proofs.YtgeagpplihecmaaDoor
open Go.RowKit
open AS (Ins)
def namesCells : Array Value := (AS.names.map fun x => Value.string ⟨x.toArray⟩).toArray
def rlet (k : Nat) : UInt8 := if k = 0 then 97 else if k = 1 then 98 else if k = 2 then 99 else 105
def rshape (op : Nat) : AS.Bytes := if op < 30 then (AS.shape op).map rlet else []
theorem str_eq5 {a : ByteArray} {l : List UInt8} (h : a.data.toList = l) : Ending.returned (.string a) = .returned (.string ⟨l.toArray⟩) := by
  subst h; rfl
theorem dig5 (n : Nat) : (⟨#[48, 49, 50, 51, 52, 53, 54, 55, 56, 57]⟩ : ByteArray).extract (n % 10) (n % 10 + 1) = ⟨#[UInt8.ofNat (48 + n % 10)]⟩ := by
  have h : n % 10 < 10 := Nat.mod_lt _ (by omega)
  generalize n % 10 = m at h
  match m, h with
  | 0, _ => rfl
  | 1, _ => rfl
  | 2, _ => rfl
  | 3, _ => rfl
  | 4, _ => rfl
  | 5, _ => rfl
  | 6, _ => rfl
  | 7, _ => rfl
  | 8, _ => rfl
  | 9, _ => rfl
  | m + 10, h => omega
section
set_option maxHeartbeats 1000000
set_option maxRecDepth 100000
theorem names_any (w : World) : Calls Tryd.prog 50 #[] w fun e w' => e = .returned (.slice (some ⟨w.heap.size, 0, none⟩) 30 30) ∧ w' = w.alloc (.cells namesCells 9) := by
  go_enter Tryd.func50, Tryd.ntmps50
  go_wp2_with fail
  go_ret
  exact ⟨rfl, rfl⟩
theorem shape_any (op : Nat) (h : op < 30) (w : World) : Calls Tryd.prog 51 #[.int .u8 (op : Int)] w fun e w' => e = .returned (.string ⟨(rshape op).toArray⟩) ∧ w = w' := by
  by_cases h1 : 2 ≤ op ∧ op ≤ 13
  · have hs : rshape op = [97, 98, 99] := by
      have : ∀ m : Fin 30, 2 ≤ m.val ∧ m.val ≤ 13 → rshape m.val = [97, 98, 99] := by decide
      exact this ⟨op, h⟩ h1
    obtain ⟨h2, h3⟩ := h1
    go_enter Tryd.func51, Tryd.ntmps51
    go_wp2_with fail
    go_ret
    exact ⟨by rw [hs]; rfl, rfl⟩
  · have h2 : op = 0 ∨ op = 1 ∨ op = 14 ∨ op = 15 ∨ op = 16 ∨ op = 17 ∨ op = 18 ∨ op = 19 ∨ op = 20 ∨ op = 21 ∨ op = 22 ∨ op = 23 ∨ op = 24 ∨ op = 25 ∨ op = 26 ∨ op = 27 ∨ op = 28 ∨ op = 29 := by omega
    clear h1 h
    rcases h2 with rfl | rfl | rfl | rfl | rfl | rfl | rfl | rfl | rfl | rfl | rfl | rfl | rfl | rfl | rfl | rfl | rfl | rfl
    all_goals
      go_enter Tryd.func51, Tryd.ntmps51
      go_wp2_with fail
      go_ret
      exact ⟨rfl, rfl⟩
theorem decimal_nat : ∀ (n : Nat) (w : World), n ≤ 2147483647 → Calls Tryd.prog 52 #[.int .i64 (n : Int)] w fun e w' => e = .returned (.string ⟨(Lib.decDigits n).toArray⟩) ∧ w = w' := by
  intro n
  induction n using Nat.strongRecOn with
  | _ n ih =>
    intro w hn
    have hx := dig5 n
    have e0 : ¬ (n : Int) < 0 := by omega
    by_cases hlt : n < 10
    · have hd : Lib.decDigits n = [UInt8.ofNat (48 + n % 10)] := by rw [Nat.mod_eq_of_lt hlt]; exact AS.dec_small hlt
      generalize Lib.decDigits n = D at *
      subst hd
      clear ih
      go_enter Tryd.func52, Tryd.ntmps52
      go_wp2_with fail
      go_ret
      exact ⟨rfl, rfl⟩
    · have HD := Lib.hid (AS.dec_big hlt)
      have hlen : (⟨(Lib.decDigits (n / 10)).toArray⟩ : ByteArray).size ≤ 20 := by
        have := AS.dec_len (u := n / 10) (k := 20) (by omega) (by omega)
        simpa [ByteArray.size] using this
      have hc := ih (n / 10) (by omega) w (by omega)
      rw [show ((n / 10 : Nat) : Int) = (n : Int) / 10 from by omega] at hc
      have HX := Lib.hid hx
      have hlx : ((⟨#[48, 49, 50, 51, 52, 53, 54, 55, 56, 57]⟩ : ByteArray).extract (n % 10) (n % 10 + 1)).size = 1 := by rw [hx]; rfl
      have HT : Hid ((⟨(Lib.decDigits (n / 10)).toArray⟩ : ByteArray).data.toList = Lib.decDigits (n / 10)) := Lib.hid rfl
      generalize (⟨(Lib.decDigits (n / 10)).toArray⟩ : ByteArray) = T at hc hlen HT
      have HC := Lib.hid hc
      clear ih hc hx
      go_enter Tryd.func52, Tryd.ntmps52
      go_wp2_with fail
      refine HC.out.mono ?_
      rintro e w' ⟨rfl, rfl⟩
      go_wp2_with fail
      go_ret
      refine ⟨str_eq5 ?_, rfl⟩
      rw [HX.out, HD.out, ByteArray.data_append, Array.toList_append, HT.out]
theorem decimal5 (n : Int) (w : World) (h1 : -2147483647 ≤ n) (h2 : n ≤ 2147483647) : Calls Tryd.prog 52 #[.int .i64 n] w fun e w' => e = .returned (.string ⟨(Lib.itoa n).toArray⟩) ∧ w = w' := by
  by_cases hn : n < 0
  · have HC := Lib.hid (decimal_nat n.natAbs w (by omega))
    rw [show ((n.natAbs : Nat) : Int) = -n from by omega] at HC
    have hI : Lib.itoa n = 45 :: Lib.decDigits n.natAbs := by unfold Lib.itoa; rw [if_pos hn]
    have hlen : (⟨(Lib.decDigits n.natAbs).toArray⟩ : ByteArray).size ≤ 20 := by
      have := AS.dec_len (u := n.natAbs) (k := 20) (by omega) (by omega)
      simpa [ByteArray.size] using this
    have HI := Lib.hid hI
    have HT : Hid ((⟨(Lib.decDigits n.natAbs).toArray⟩ : ByteArray).data.toList = Lib.decDigits n.natAbs) := Lib.hid rfl
    have HC' := HC.out
    clear HC
    generalize (⟨(Lib.decDigits n.natAbs).toArray⟩ : ByteArray) = T at HC' hlen HT
    have HC := Lib.hid HC'
    clear hI HC'
    go_enter Tryd.func52, Tryd.ntmps52
    go_wp2_with fail
    refine HC.out.mono ?_
    rintro e w' ⟨rfl, rfl⟩
    go_wp2_with fail
    go_ret
    refine ⟨str_eq5 ?_, rfl⟩
    rw [HI.out, ByteArray.data_append, Array.toList_append, HT.out]
    rfl
  · obtain ⟨k, rfl⟩ := Int.eq_ofNat_of_zero_le (show 0 ≤ n by omega)
    have hI : Lib.itoa (k : Int) = Lib.decDigits k := by unfold Lib.itoa; rw [if_neg hn]; simp
    rw [hI]
    exact decimal_nat k w (by omega)
theorem name_cell (op : Nat) (h : op < 30) (W : World) : (W.alloc (.cells namesCells 9)).cell? ⟨W.heap.size, op, none⟩ = some (.string ⟨(AS.name op).toArray⟩) := by
  rw [(Blk.new W 9 namesCells).cell]
  unfold namesCells AS.name
  rw [List.getElem?_toArray, List.getElem?_map, List.getD_eq_getElem?_getD]
  have : AS.names.length = 30 := by decide
  rw [List.getElem?_eq_getElem (by omega)]
  rfl
theorem shape3 (op : Nat) : (AS.shape op).length ≤ 3 ∧ ∀ k ∈ AS.shape op, k ≤ 3 := ⟨AS.shape_len op, AS.shape_le op⟩
/-- What Line's loop knows. -/
def LnRel (i : Ins) (g : Nat) (w : World) (s k : Value) (wr : World) : Prop :=
  ∃ (j : Nat) (S : ByteArray), j ≤ (AS.shape i.op).length ∧ s = .string S ∧ k = .int .i64 (j : Int) ∧ S.size ≤ 8 + 30 * j ∧ S.data.toList = AS.name i.op ++ ((AS.shape i.op).take j).flatMap (fun k => 32 :: AS.word i k) ∧
    Blk wr g 48 (insV i) ∧ Below w.heap.size w wr
theorem line_any (i : Ins) (hv : AS.valid i = true) (w : World) : Calls Tryd.prog 30 #[.agg (insV i)] w fun e w' => e = .returned (.string ⟨(AS.body i).toArray⟩) ∧ Below w.heap.size w w' := by
  have h30 := AS.valid_lt hv
  have hN := names_any (w.alloc (.cells (insV i) 48))
  have HNA := Lib.hid (fun W => names_any W)
  have hk1 := Blk.new w 48 (insV i)
  have x0 : (w.alloc (.cells (insV i) 48)).cell? ⟨w.heap.size, 0, none⟩ = some (.int .u8 (i.op : Int)) := hk1.cell 0
  have x1 : ((w.alloc (.cells (insV i) 48)).alloc (.cells namesCells 9)).cell? ⟨w.heap.size, 0, none⟩ = some (.int .u8 (i.op : Int)) := (hk1.alloc _).cell 0
  have x2 : ((w.alloc (.cells (insV i) 48)).alloc (.cells namesCells 9)).cell? ⟨w.heap.size + 1, i.op, none⟩ = some (.string ⟨(AS.name i.op).toArray⟩) := by
    have := name_cell i.op h30 (w.alloc (.cells (insV i) 48))
    simpa using this
  have p1 : (0 : Int) ≤ (i.op : Int) := by omega
  have p2 : (i.op : Int) < 30 := by omega
  have HK1 := Lib.hid hk1
  have HSH := Lib.hid (fun W => shape_any i.op h30 W)
  clear hk1 hN
  have hB1 : Below w.heap.size w (((w.alloc (.cells (insV i) 48)).alloc (.cells namesCells 9)).drew) := below_drewN (below_new ((Below.refl _ _).alloc (Nat.le_refl _) _) _) 1
  have hBL : Blk (((w.alloc (.cells (insV i) 48)).alloc (.cells namesCells 9)).drew) w.heap.size 48 (insV i) := (HK1.out.alloc _).drewN 1
  have HB1 := Lib.hid hB1
  have HBL := Lib.hid hBL
  obtain ⟨SH, hSH⟩ : ∃ SH : ByteArray, SH = ⟨(rshape i.op).toArray⟩ := ⟨_, rfl⟩
  have hrs : rshape i.op = (AS.shape i.op).map rlet := by unfold rshape; rw [if_pos h30]
  have hSz : SH.size = (AS.shape i.op).length := by rw [hSH, hrs]; simp [ByteArray.size]
  have hSg : ∀ (j k : Nat), (AS.shape i.op)[j]? = some k → ∀ h, SH[j]'h = rlet k := by
    intro j k hk h
    subst hSH
    show (rshape i.op).toArray[j]'_ = _
    rw [List.getElem_toArray]
    have : (rshape i.op)[j]? = some (rlet k) := by rw [hrs, List.getElem?_map, hk]; rfl
    exact (List.getElem?_eq_some_iff.1 this).2
  rw [← hSH] at HSH
  have HSG := Lib.hid hSg
  have HV := Lib.hid hv
  have hl3 := AS.shape_len i.op
  have hnl : (AS.name i.op).length ≤ 6 := (AS.name_ok i.op h30).2.2.2
  have hz8 : (⟨(AS.name i.op).toArray⟩ : ByteArray).size ≤ 8 := by simp [ByteArray.size]; omega
  have HZ8 := Lib.hid hz8
  clear hB1 hBL hSg hv hSH hrs HK1 hnl hz8
  go_enter Tryd.func30, Tryd.ntmps30
  go_wp2_with fail
  go_region_with (refine (HNA.out _).mono ?_; rintro e w2 ⟨rfl, rfl⟩)
  all_goals
    clear x0 x1 x2
    generalize ((w.alloc (.cells (insV i) 48)).alloc (.cells namesCells 9)).drew = W2 at *
    have z0 : W2.cell? ⟨w.heap.size, 0, none⟩ = some (.int .u8 (i.op : Int)) := HBL.out.cell 0
    generalize hg : w.heap.size = g at *
    go_wp2_with fail
    refine (HSH.out _).mono ?_
    rintro e w3 ⟨rfl, rfl⟩
    clear z0
    go_wp2_with fail
    go_loopw [3, 5] (fun s k wr => LnRel i g w s k wr) (fun _ k _ => 3 - (intOf k).toNat)
    case atStart => exact ⟨0, _, Nat.zero_le _, rfl, rfl, HZ8.out, by simp, HBL.out, by rw [hg]; exact HB1.out⟩
    case round =>
      obtain ⟨j, S, hj, rfl, rfl, hS, hSd, hblk, hbw⟩ := hrel
      have HB := Lib.hid hbw
      have HD := Lib.hid hSd
      have HBK := Lib.hid hblk
      clear hbw hSd
      by_cases hlt : j < (AS.shape i.op).length
      · have q0 : (j : Int) < (SH.size : Int) := by omega
        obtain ⟨kk, hk⟩ : ∃ kk, (AS.shape i.op)[j]? = some kk := ⟨_, List.getElem?_eq_getElem hlt⟩
        have hk3 : kk ≤ 3 := AS.shape_le i.op kk (List.mem_of_getElem? hk)
        have hL := HSG.out j kk hk
        obtain ⟨hl1, hl2⟩ := AS.valid_in HV.out hk3
        obtain ⟨hl5, hl6⟩ := AS.lim_small i.op kk
        have HDC := Lib.hid (fun W => decimal5 (i.get kk) W (by omega) (by omega))
        have hil : (⟨(Lib.itoa (i.get kk)).toArray⟩ : ByteArray).size ≤ 8 := by
          have := AS.itoa_len (n := i.get kk) (by omega) (by omega)
          simp [ByteArray.size]; omega
        have HT : Hid ((⟨(Lib.itoa (i.get kk)).toArray⟩ : ByteArray).data.toList = Lib.itoa (i.get kk)) := Lib.hid rfl
        have hc : wr.cell? ⟨g, kk + 1, none⟩ = some (.int .i64 (i.get kk)) := by
          rw [HBK.out.cell (kk + 1)]
          have : kk = 0 ∨ kk = 1 ∨ kk = 2 ∨ kk = 3 := by omega
          rcases this with rfl | rfl | rfl | rfl <;> rfl
        generalize (⟨(Lib.itoa (i.get kk)).toArray⟩ : ByteArray) = T at *
        have htk : (AS.shape i.op).take (j + 1) = (AS.shape i.op).take j ++ [kk] := by
          rw [List.take_succ_eq_append_getElem hlt, (List.getElem?_eq_some_iff.1 hk).2]
        have HTK := Lib.hid htk
        have HW : Hid (AS.word i kk = if kk = 3 then Lib.itoa i.imm else 114 :: Lib.itoa (i.get kk)) := Lib.hid rfl
        clear hl1 hl2 hl5 hl6 htk hblk hk
        have hcase : kk = 0 ∨ kk = 1 ∨ kk = 2 ∨ kk = 3 := by omega
        rcases hcase with rfl | rfl | rfl | rfl
        · rw [show rlet 0 = 97 from rfl] at hL
          rw [show i.get 0 = i.a from rfl] at *
          go_wp2_with fail
          refine (HDC.out _).mono ?_
          rintro e w4 ⟨rfl, rfl⟩
          go_wp2_with fail
          refine ⟨⟨j + 1, _, by omega, rfl, by simp, by simp [show (⟨#[32, 114]⟩ : ByteArray).size = 2 from rfl]; omega, ?_, HBK.out, HB.out⟩, by simp [intOf]; omega⟩
          rw [HTK.out, List.flatMap_append, ← List.append_assoc, ← HD.out]
          simp [HW.out, HT.out]
        · rw [show rlet 1 = 98 from rfl] at hL
          rw [show i.get 1 = i.b from rfl] at *
          go_wp2_with fail
          refine (HDC.out _).mono ?_
          rintro e w4 ⟨rfl, rfl⟩
          go_wp2_with fail
          refine ⟨⟨j + 1, _, by omega, rfl, by simp, by simp [show (⟨#[32, 114]⟩ : ByteArray).size = 2 from rfl]; omega, ?_, HBK.out, HB.out⟩, by simp [intOf]; omega⟩
          rw [HTK.out, List.flatMap_append, ← List.append_assoc, ← HD.out]
          simp [HW.out, HT.out]
        · rw [show rlet 2 = 99 from rfl] at hL
          rw [show i.get 2 = i.c from rfl] at *
          go_wp2_with fail
          refine (HDC.out _).mono ?_
          rintro e w4 ⟨rfl, rfl⟩
          go_wp2_with fail
          refine ⟨⟨j + 1, _, by omega, rfl, by simp, by simp [show (⟨#[32, 114]⟩ : ByteArray).size = 2 from rfl]; omega, ?_, HBK.out, HB.out⟩, by simp [intOf]; omega⟩
          rw [HTK.out, List.flatMap_append, ← List.append_assoc, ← HD.out]
          simp [HW.out, HT.out]
        · rw [show rlet 3 = 105 from rfl] at hL
          rw [show i.get 3 = i.imm from rfl] at *
          go_wp2_with fail
          refine (HDC.out _).mono ?_
          rintro e w4 ⟨rfl, rfl⟩
          go_wp2_with fail
          refine ⟨⟨j + 1, _, by omega, rfl, by simp, by simp [show (⟨#[32]⟩ : ByteArray).size = 1 from rfl]; omega, ?_, HBK.out, HB.out⟩, by simp [intOf]; omega⟩
          rw [HTK.out, List.flatMap_append, ← List.append_assoc, ← HD.out]
          simp [HW.out, HT.out]
      · have q1 : ¬ (j : Int) < (SH.size : Int) := by omega
        have hkk : j = (AS.shape i.op).length := by omega
        have hd := HD.out
        rw [hkk, List.take_length] at hd
        have HD2 := Lib.hid hd
        clear hd HD hblk
        go_wp2_with fail
        go_ret
        exact ⟨str_eq5 HD2.out, hg ▸ HB.out⟩
/-- What Format's loop knows. -/
def FmRel (l : List Ins) (w : World) (s k : Value) (wr : World) : Prop :=
  ∃ (j : Nat) (S : ByteArray), j ≤ l.length ∧ s = .string S ∧ k = .int .i64 (j : Int) ∧ S.size ≤ 40 * j ∧ S.data.toList = AS.fmtL (l.take j) ∧ Below w.heap.size w wr
theorem rformat_any (l : List Ins) (A : Option Addr) (n c : Nat) (w : World) (hN : l.length = n) (hn : n ≤ 1000000) (hr : Row w A (insCells l)) (hv : l.all AS.valid = true) :
    Calls Tryd.prog 15 #[.slice A n c] w fun e w' => e = .returned (.string ⟨(AS.fmtL l).toArray⟩) ∧ Below w.heap.size w w' := by
  have HN := Lib.hid hN
  have HR := Lib.hid hr
  have HV := Lib.hid hv
  clear hN hr hv
  go_enter Tryd.func15, Tryd.ntmps15
  go_wp2_with fail
  go_loopw [3, 4] (fun s k wr => FmRel l w s k wr) (fun _ k _ => n - (intOf k).toNat)
  case atStart => exact ⟨0, _, Nat.zero_le _, rfl, rfl, by decide, rfl, Below.refl _ _⟩
  case round =>
    obtain ⟨j, S, hj, rfl, rfl, hS, hSd, hbw⟩ := hrel
    have HB := Lib.hid hbw
    have HD := Lib.hid hSd
    clear hSd
    by_cases hlt : j < n
    · have hlt' : j < l.length := by rw [HN.out]; exact hlt
      obtain ⟨i, hi⟩ : ∃ i, l[j]? = some i := ⟨_, List.getElem?_eq_getElem hlt'⟩
      obtain ⟨rb, ro, rfl, hrb, c0, c1, c2, c3, c4⟩ := (HR.out.below hbw).ins hi
      have hvi := List.all_eq_true.1 HV.out i (List.mem_of_getElem? hi)
      have HLN := Lib.hid (show Calls Tryd.prog 30 #[.agg #[.int .u8 (i.op : Int), .int .i64 i.a, .int .i64 i.b, .int .i64 i.c, .int .i64 i.imm]] wr _ from line_any i hvi wr)
      have q0 : (j : Int) < (n : Int) := by omega
      have htk : l.take (j + 1) = l.take j ++ [i] := by
        rw [List.take_succ_eq_append_getElem hlt', (List.getElem?_eq_some_iff.1 hi).2]
      have hT : (⟨(AS.body i).toArray⟩ : ByteArray).size ≤ 39 := by
        have := AS.line_len hvi
        rw [AS.line_body] at this
        simp at this
        simp [ByteArray.size]; omega
      have HT : Hid ((⟨(AS.body i).toArray⟩ : ByteArray).data.toList = AS.body i) := Lib.hid rfl
      have HTK := Lib.hid htk
      generalize (⟨(AS.body i).toArray⟩ : ByteArray) = T at *
      clear hbw hrb hi hvi htk
      go_wp2_with fail
      refine HLN.out.mono ?_
      rintro e w2 ⟨rfl, hb2⟩
      have HB2 := Lib.hid (HB.out.trans (hb2.mono HB.out.size))
      clear hb2
      go_wp2_with fail
      refine ⟨⟨j + 1, _, by omega, rfl, by simp, by simp only [ByteArray.size_append, show (⟨#[10]⟩ : ByteArray).size = 1 from rfl]; omega, ?_, HB2.out⟩, by simp [intOf]; omega⟩
      rw [HTK.out, AS.fmtL, List.flatMap_append, ← AS.fmtL, ← HD.out]
      simp [HT.out, AS.line_body]
    · have q1 : ¬ (j : Int) < (n : Int) := by omega
      have hd := HD.out
      rw [show j = l.length from by have := HN.out; omega, List.take_length] at hd
      have HD2 := Lib.hid hd
      clear hd HD hbw
      go_wp2_with fail
      go_ret
      exact ⟨str_eq5 HD2.out, HB.out⟩
end
end Go.Proofs.YtgeagpplihecmaaDoor
