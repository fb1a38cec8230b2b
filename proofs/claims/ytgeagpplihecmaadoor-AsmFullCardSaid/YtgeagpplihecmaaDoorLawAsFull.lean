/- The walk of AsmFull. -/
import Derived.Test.YtgeagpplihecmaaDoorAsO
import Derived.Test.YtgeagpplihecmaaDoorPlainFull
import Derived.Test.YtgeagpplihecmaaDoorAsL
import Derived.Laws.MakeOwn
import Derived.Laws.IdiomStrings
namespace Go.Proofs.YtgeagpplihecmaaDoor
open Go.RowKit
open AS (Ins)
theorem zcells : ∀ (n i : Nat) (v : Value), (insCells (AS.zeros n))[i]? = some v → i < n * 5 ∧ (insV AS.Ins.zero)[i % 5]? = some v
  | 0, i, v, h => by simp [AS.zeros, insCells] at h
  | n + 1, i, v, h => by
    have e : insCells (AS.zeros (n + 1)) = (insV AS.Ins.zero).toList ++ insCells (AS.zeros n) := by
      unfold AS.zeros insCells
      rw [List.replicate_succ, List.flatMap_cons]
    rw [e] at h
    have hl : (insV AS.Ins.zero).toList.length = 5 := rfl
    rcases Nat.lt_or_ge i 5 with hi | hi
    · rw [List.getElem?_append_left (by omega)] at h
      exact ⟨by omega, by rw [Nat.mod_eq_of_lt hi, ← h]; exact (Array.getElem?_toList).symm⟩
    · rw [List.getElem?_append_right (by omega), hl] at h
      obtain ⟨h1, h2⟩ := zcells n (i - 5) v h
      refine ⟨by omega, ?_⟩
      rw [← h2, show i % 5 = (i - 5) % 5 from by omega]
theorem madeCells_at (z : Array Value) (n i : Nat) (h : i < n) : (madeCells z n)[i]? = some (z[i % z.size]!) := by
  unfold madeCells
  simp [h]
theorem zrow {w : World} {g n m : Nat} (hb : Blk w g 48 (madeCells (Value.agg #[.int .u8 0, .int .i64 0, .int .i64 0, .int .i64 0, .int .i64 0]).cells (n * 5))) (hm : m ≤ n) : Row w (some ⟨g, 0, none⟩) (insCells (AS.zeros m)) := fun _ => by
  refine ⟨g, 0, rfl, hb.lt, fun i v hi => ?_⟩
  obtain ⟨h1, h2⟩ := zcells m i v hi
  rw [Nat.zero_add, hb.cell, madeCells_at _ _ _ (by omega), show (Value.agg #[.int .u8 0, .int .i64 0, .int .i64 0, .int .i64 0, .int .i64 0]).cells = insV AS.Ins.zero from rfl, show (insV AS.Ins.zero).size = 5 from rfl]
  rw [← h2]
  have h3 : i % 5 < (insV AS.Ins.zero).size := by show i % 5 < 5; omega
  rw [Array.getElem?_eq_getElem h3]
  simp [h3]
theorem zrow32 {w : World} {g n : Nat} (hb : Blk w g 44 (madeCells (Value.int .u32 0).cells (n * 1))) : Row w (some ⟨g, 0, none⟩) (u32Cells (List.replicate n 0)) := fun _ => by
  refine ⟨g, 0, rfl, hb.lt, fun i v hi => ?_⟩
  unfold u32Cells at hi
  rw [List.map_replicate] at hi
  obtain ⟨h1, h2⟩ := List.getElem?_eq_some_iff.1 hi
  simp at h1 h2
  rw [Nat.zero_add, hb.cell, madeCells_at _ _ _ (by omega), show (Value.int .u32 0).cells = #[.int .u32 0] from rfl, ← h2]
  simp [Nat.mod_one]
/-- What AsmFull's loop knows. -/
def FuRel (g N : Nat) (w : World) (v : Value) (wr : World) : Prop :=
  ∃ (k : Nat) (cs : Array Value), k ≤ N ∧ v = .int .i64 (k : Int) ∧ Blk wr g 5 cs ∧ cs.size = N ∧ (∀ j, j < k → cs[j]? = some (.int .u8 32)) ∧ Below w.heap.size w wr
theorem infoU8 : (Tryd.prog.info? 5).map (fun i => (i.zero, i.size, i.bytes)) = some (some (.int .u8 0), 1, 1) := by kernel_rfl
theorem add_run5 (a b : ByteArray) (W : World) (h : a.size + b.size ≤ 9223372036854775807) : (binOp .add 9 (.string a) (.string b)).run Tryd.prog W = .ok (.string (a ++ b)) W := by
  have h2 := run_string_add_sum (P := Tryd.prog) W a b h
  simpa [binOp] using h2
/-- A row of blanks read as a string. -/
theorem blanks {wr : World} {g N : Nat} {cs : Array Value} (hb : Blk wr g 5 cs) (hc : ∀ j, j < N → cs[j]? = some (.int .u8 32)) (m c : Nat) (hm : m ≤ N) :
    (convert 36 9 (.slice (some ⟨g, 0, none⟩) m c)).run Tryd.prog wr = .ok (.string ⟨(List.replicate m (32 : UInt8)).toArray⟩) wr := by
  have := run_convert_bytes_back (P := Tryd.prog) wr 36 9 5 ⟨g, 0, none⟩ c (List.replicate m (32 : UInt8)) Tryd.underlying36 Tryd.underlying5 Tryd.underlying9 (fun j hj => by
    rw [show (⟨g, 0, none⟩ : Addr).add j = ⟨g, j, none⟩ from by unfold Addr.add; split <;> simp_all, hb.cell, hc j (by simp at hj; omega)]
    simp)
  simpa using this
section
set_option maxHeartbeats 2000000
set_option maxRecDepth 100000
theorem asmfull_walk (k : Nat) (w : World) (hF : FmtIs w) (hP : PowIs w) (hM : MaxIs w) (hk : k ≤ 255) :
    Calls Tryd.prog 11 #[.int .u8 (k : Int)] w fun e w' => e = .returned (.bool true) ∧ Below w.heap.size w w' := by
  have hnot : ∀ (x : Bool) (w : World), (Op.unary .not (.bool x)).run Tryd.prog w = .ok (.bool (!x)) w := fun _ _ => rfl
  have HF := Lib.hid hF
  have HP := Lib.hid hP
  have HM := Lib.hid hM
  have HA := Lib.hid (awake_any w hF hM hP)
  obtain ⟨i1, ki, kz0, kz1, kz2⟩ := info_parts infoIns
  obtain ⟨i2, li, lz0, lz1, lz2⟩ := info_parts infoU32
  obtain ⟨i3, mi, mz0, mz1, mz2⟩ := info_parts infoU8
  have hmk1 := fun W => run_make (P := Tryd.prog) W 22 48 i1 (.agg #[.int .u8 0, .int .i64 0, .int .i64 0, .int .i64 0, .int .i64 0]) Tryd.underlying22 ki kz0 .i64 .i64 4097 4097 (by decide) (by decide) (by rw [kz2]; decide) (by decide)
  rw [kz1] at hmk1
  have hmk2 := fun W => run_make (P := Tryd.prog) W 41 44 i2 (.int .u32 0) Tryd.underlying41 li lz0 .i64 .i64 4097 4097 (by decide) (by decide) (by rw [lz2]; decide) (by decide)
  rw [lz1] at hmk2
  have hmk3 := fun W => run_make (P := Tryd.prog) W 36 5 i3 (.int .u8 0) Tryd.underlying36 mi mz0 .i64 .i64 ((65537 + k : Nat) : Int) ((65537 + k : Nat) : Int) (by omega) (by omega) (by rw [mz2]; omega) (by omega)
  rw [mz1] at hmk3
  rw [show (4097 : Int).toNat = 4097 from rfl] at hmk1 hmk2
  rw [show ((65537 + k : Nat) : Int).toNat = 65537 + k from by omega] at hmk3
  have HR1 := Lib.hid (fun W m (hm : m ≤ 4097) => zrow (n := 4097) (Blk.new W 48 (madeCells (Value.agg #[.int .u8 0, .int .i64 0, .int .i64 0, .int .i64 0, .int .i64 0]).cells (4097 * 5))) hm)
  have HR2 := Lib.hid (fun W => zrow32 (n := 4097) (Blk.new W 44 (madeCells (Value.int .u32 0).cells (4097 * 1))))
  have HC3 := Lib.hid (size_madeCells (Value.int .u8 0).cells ((65537 + k) * 1))
  generalize madeCells (Value.agg #[.int .u8 0, .int .i64 0, .int .i64 0, .int .i64 0, .int .i64 0]).cells (4097 * 5) = C1 at *
  generalize madeCells (Value.int .u32 0).cells (4097 * 1) = C2 at *
  generalize madeCells (Value.int .u8 0).cells ((65537 + k) * 1) = C3 at *
  clear hF hP hM ki kz0 kz1 kz2 li lz0 lz1 lz2 mi mz0 mz1 mz2
  go_enter Tryd.func11, Tryd.ntmps11
  go_wp2_with fail
  refine HA.out.mono ?_
  rintro e w1 ⟨rfl, hb1⟩
  have hB2 := below_new hb1 (.cells C1 48)
  have HB2 := Lib.hid hB2
  have HR41 := Lib.hid (HR1.out w1 4096 (by omega))
  have HR42 := Lib.hid (HR1.out w1 4097 (by omega))
  clear hb1 HA HR1
  obtain ⟨g2, hg2⟩ : ∃ g2, w1.heap.size = g2 := ⟨_, rfl⟩
  obtain ⟨W2, hW2⟩ : ∃ W2, w1.alloc (.cells C1 48) = W2 := ⟨_, rfl⟩
  have hmk1' := hmk1 w1
  rw [hg2, hW2] at hmk1'
  rw [hg2] at HR41 HR42
  rw [hW2] at HB2 HR41 HR42
  clear hmk1 hB2 hg2 hW2
  have ho1 : ∀ m, ∀ i ∈ AS.zeros m, i.op ≤ 255 := fun m i hi => by rw [List.eq_of_mem_replicate hi]; decide
  have HO1 := Lib.hid ho1
  clear ho1
  have hff := format_any (AS.zeros 4096) (some ⟨g2, 0, none⟩) 4096 4097 W2 (AS.zeros_len _) (by omega) HR41.out (HO1.out _) (HF.out.below HB2.out) (HP.out.below HB2.out)
  rw [AS.fmt_zeros] at hff
  obtain ⟨T, hT⟩ : ∃ T : ByteArray, T = ⟨(AS.fmtL (AS.zeros 4096)).toArray⟩ := ⟨_, rfl⟩
  have hTd : T.data.toList = AS.fmtL (AS.zeros 4096) := by rw [hT]
  have hTs : T.size = 16384 := by
    have h1 : T.data.toList.length = T.size := Array.length_toList
    rw [hTd, AS.fmtL_zeros] at h1
    omega
  have hpz := AS.parse_zeros
  have hpz1 := AS.parse_zeros1
  rw [← hTd] at hpz hpz1
  rw [← show (T ++ ⟨#[110, 111, 112]⟩).data.toList = T.data.toList ++ [110, 111, 112] from by simp [ByteArray.data_append]] at hpz1
  rw [← hT] at hff
  have HFF := Lib.hid hff
  have HPZ := Lib.hid hpz
  have HPZ1 := Lib.hid hpz1
  clear hff hpz hpz1 hTd hT HR41
  go_wp2_with fail
  refine HFF.out.mono ?_
  rintro e w3 ⟨rfl, hb3⟩
  have HB3 := Lib.hid (HB2.out.trans (hb3.mono HB2.out.size))
  have hR3 := HR42.out.below hb3
  have hff := format_any (AS.zeros 4097) (some ⟨g2, 0, none⟩) 4097 4097 w3 (AS.zeros_len _) (by omega) hR3 (HO1.out _) (HF.out.below HB3.out) (HP.out.below HB3.out)
  rw [AS.fmt_zeros1] at hff
  have HF2 := Lib.hid hff
  have HR3 := Lib.hid hR3
  clear hff hR3 hb3 HFF HR42 hmk1'
  go_wp2_with fail
  refine HF2.out.mono ?_
  rintro e w4 ⟨rfl, hb4⟩
  have HB4 := Lib.hid (HB3.out.trans (hb4.mono HB3.out.size))
  have HR4 := Lib.hid (HR3.out.below hb4)
  have hadd := add_run5 T ⟨#[110, 111, 112]⟩ w4 (by rw [hTs]; decide)
  have hpp := parse_any (T ++ ⟨#[110, 111, 112]⟩) w4 (by rw [ByteArray.size_append, hTs]; decide) (HF.out.below HB4.out) (HM.out.below HB4.out)
  rw [HPZ1.out] at hpp
  have HP5 := Lib.hid hpp
  clear hpp hb4 HF2 HR3 HPZ1
  go_wp2_with fail
  refine HP5.out.mono ?_
  rintro e w5 ⟨A5, n5, c5, rfl, hn5, hr5, hb5⟩
  have HB5 := Lib.hid (HB4.out.trans (hb5.mono HB4.out.size))
  have HR5 := Lib.hid (HR4.out.below hb5)
  have hpp := parse_any T w5 (by omega) (HF.out.below HB5.out) (HM.out.below HB5.out)
  rw [HPZ.out] at hpp
  have HP6 := Lib.hid hpp
  clear hpp hb5 hr5 hadd HP5 HR4 HPZ
  go_wp2_with fail
  refine HP6.out.mono ?_
  rintro e w6 ⟨A6, n6, c6, rfl, hn6, hr6, hb6⟩
  have hn6' : n6 = 4096 := hn6.trans (AS.zeros_len _)
  clear hn6 hr6
  subst hn6'
  have HB6 := Lib.hid (HB5.out.trans (hb6.mono HB5.out.size))
  have hff := assemble_any (AS.zeros 4097) (some ⟨g2, 0, none⟩) 4097 4097 w6 (AS.zeros_len _) (by omega) (HR5.out.below hb6) (HO1.out _) (HF.out.below HB6.out)
  rw [show asmR (AS.zeros 4097) = ([], 5) from by unfold asmR; rw [if_pos (by rw [AS.zeros_len]; omega)]] at hff
  have HA7 := Lib.hid hff
  clear hff hb6 HP6 HR5
  go_wp2_with fail
  refine HA7.out.mono ?_
  rintro e w7 ⟨A7, n7, c7, rfl, hn7, hr7, hb7⟩
  have HB7 := Lib.hid (HB6.out.trans (hb7.mono HB6.out.size))
  have hB8 := below_new HB7.out (.cells C2 44)
  have hmk2' := hmk2 w7
  have hdd := disassemble_any (List.replicate 4097 0) (some ⟨w7.heap.size, 0, none⟩) 4097 4097 (w7.alloc (.cells C2 44)) (by simp) (by omega) (HR2.out w7) (fun x hx => by rw [List.eq_of_mem_replicate hx]; decide) (HF.out.below hB8)
  rw [show disR (List.replicate 4097 0) = ([], 0, 5) from by unfold disR; rw [if_pos (by simp)]] at hdd
  have HD8 := Lib.hid hdd
  have HB8 := Lib.hid hB8
  clear hmk2 hdd hB8 hr7 hb7 hn7 HA7
  go_wp2_with fail
  refine HD8.out.mono ?_
  rintro e w8 ⟨A8, n8, c8, rfl, hn8, hr8, hb8⟩
  have HB9 := Lib.hid (HB8.out.trans (hb8.mono HB8.out.size))
  have hmk3' := hmk3 w8
  have HS := Lib.hid (show FuRel w8.heap.size (65537 + k) w8 (.int .i64 0) (w8.alloc (.cells C3 5)) from ⟨0, C3, by omega, rfl, Blk.new _ _ _, by rw [HC3.out]; omega, fun j hj => by omega, (Below.refl _ _).alloc (Nat.le_refl _) _⟩)
  clear hmk3 hr8 hb8 hn8 HD8 hmk2' HB8
  have hwr : IntKind.i64.wrap (65537 + (k : Int)) = 65537 + (k : Int) := IntWalk.i64_in _ (by omega)
  rw [show ((65537 + k : Nat) : Int) = 65537 + (k : Int) from by omega] at hmk3'
  go_wp2_with fail
  go_loopw [20] (fun v wr => FuRel w8.heap.size (65537 + k) w8 v wr) (fun v _ => 65537 + k - (intOf v).toNat)
  case atStart => exact HS.out
  case round =>
    obtain ⟨j, cs, hj, rfl, hbk, hcs, hall, hbw⟩ := hrel
    have HB := Lib.hid hbw
    have HBW := Lib.hid (HB9.out.trans (hbw.mono HB9.out.size))
    have HALL := Lib.hid hall
    have HBK := Lib.hid hbk
    by_cases hlt : j < 65537 + k
    · have q0 : (j : Int) < 65537 + (k : Int) := by omega
      have z1 : wr.cell? ⟨w8.heap.size, j, none⟩ = some cs[j] := by rw [hbk.cell]; exact Array.getElem?_eq_getElem (by omega)
      have z2 := hbk.frozen j
      have HN := Lib.hid (show FuRel w8.heap.size (65537 + k) w8 (.int .i64 ((j : Int) + 1)) (wr.setCell ⟨w8.heap.size, j, none⟩ (.int .u8 32)) from ⟨j + 1, _, by omega, by simp, hbk.set_ j _, by simp [hcs], fun q hq => by
        rw [Array.getElem?_setIfInBounds]
        by_cases hqj : j = q
        · rw [if_pos hqj, if_pos (by omega)]
        · rw [if_neg hqj]; exact hall q (by omega), hbw.setCell (Nat.le_refl _) _⟩)
      clear hbk hall hbw
      go_wp2_with fail
      exact ⟨HN.out, by simp [intOf]; omega⟩
    · have q1 : ¬ (j : Int) < 65537 + (k : Int) := by omega
      have hjj : j = 65537 + k := by omega
      subst hjj
      have hcv1 := blanks hbk hall (65537 + k) (65537 + k) (Nat.le_refl _)
      have hp1 := AS.parse_spaces1 (n := 65537 + k) (by omega)
      have hp2 := AS.parse_spaces (n := 65536) (by omega)
      obtain ⟨U, hU⟩ : ∃ U : ByteArray, U = ⟨(List.replicate (65537 + k) (32 : UInt8)).toArray⟩ := ⟨_, rfl⟩
      obtain ⟨V, hV⟩ : ∃ V : ByteArray, V = ⟨(List.replicate 65536 (32 : UInt8)).toArray⟩ := ⟨_, rfl⟩
      have hUd : U.data.toList = List.replicate (65537 + k) 32 := by rw [hU]
      have hVd : V.data.toList = List.replicate 65536 32 := by rw [hV]
      have hUs : U.size = 65537 + k := by
        have h1 : U.data.toList.length = U.size := Array.length_toList
        rw [hUd, List.length_replicate] at h1; exact h1.symm
      have hVs : V.size = 65536 := by
        have h1 : V.data.toList.length = V.size := Array.length_toList
        rw [hVd, List.length_replicate] at h1; exact h1.symm
      rw [← hUd] at hp1
      rw [← hVd] at hp2
      rw [← hU] at hcv1
      have hpp := parse_any U wr (by omega) (HF.out.below HBW.out) (HM.out.below HBW.out)
      rw [hp1] at hpp
      have HPU := Lib.hid hpp
      have HP2 := Lib.hid hp2
      have HV := Lib.hid hV
      clear hpp hp1 hp2 hUd hVd hU hV hbk hall hbw
      go_wp2_with fail
      refine HPU.out.mono ?_
      rintro e w10 ⟨A10, n10, c10, rfl, hn10, hr10, hb10⟩
      have HB10 := Lib.hid (HBW.out.trans (hb10.mono HBW.out.size))
      have hcv2 := blanks (HBK.out.below hb10) HALL.out 65536 (65537 + k) (by omega)
      rw [← HV.out] at hcv2
      have hpp := parse_any V w10 (by omega) (HF.out.below HB10.out) (HM.out.below HB10.out)
      rw [HP2.out] at hpp
      have HPV := Lib.hid hpp
      clear hpp hcv1 HPU hr10 hb10
      go_wp2_with fail
      refine HPV.out.mono ?_
      rintro e w11 ⟨A11, n11, c11, rfl, hn11, hr11, hb11⟩
      have HB11 := Lib.hid (HB10.out.trans (hb11.mono HB10.out.size))
      clear hb11 hr11
      go_wp2_with fail
      go_ret
      exact ⟨rfl, HB11.out⟩
end
end Go.Proofs.YtgeagpplihecmaaDoor
