/- ParserLimits: as many declarations and levels of nesting as the limits allow are accepted, and one more is reported with its offset (written by wip/genlimits.py). -/
import Derived.Test.YtaaaicpjlaeiiaaDoorLawLevels
import Derived.Test.YtaaaicpjlaeiiaaDoorPlainLimits
namespace Go.Proofs.YtaaaicpjlaeiiaaDoor
open Go.RowKit Go.Maps
open PP (Tree ArrD TaskD ProgD)

/-- The contract of Program at a text whose answer is known. -/
theorem program_ans (s : ByteArray) (w : World) (hs : s.size ≤ maxLen) (hg : SignsIs w) (hO : OpsIs w) {n o e : Nat} {l : List UInt8} (hl : s.data.toList = l) (ha : PP.answer l n = some (o, e)) (he : e = 0 → o = 0) : Calls Tryd.prog 32 #[.string s] w fun r w' =>
    ∃ A k c A' k' c', r = .returned (.tuple #[.agg #[.slice A k c, .slice A' k' c'], .int .i64 (o : Int), .int .i64 (e : Int)]) ∧ Below w.heap.size w w' := by
  subst hl
  unfold PP.answer at ha
  obtain ⟨q, hq1, hq2⟩ := Option.map_eq_some_iff.1 ha
  rw [← envOf_eq, ← sigOf_eq] at hq1
  injection hq2 with hq3 hq4
  refine (program_at s w hs hg hO hq1).mono ?_
  rintro r w2 ⟨va, vt, ba, els, bt, bx, kx, rfl, hv, hb3⟩
  obtain ⟨Av, cv, rfl⟩ := hv.ra.form
  obtain ⟨At, ct, rfl⟩ := hv.rt.form
  have hout : (PP.out zeroP q).2.1 = o ∧ (PP.out zeroP q).2.2 = e := by
    unfold PP.out
    split
    · rename_i h0
      have : e = 0 := by omega
      exact ⟨(he this).symm, this.symm⟩
    · exact ⟨hq3, hq4⟩
  rw [hout.1, hout.2]
  exact ⟨_, _, _, _, _, _, rfl, hb3⟩
def RepRel (h o : ByteArray) (n : Nat) (s i : Value) : Prop := ∃ k : Nat, k ≤ n ∧ i = .int .i64 (k : Int) ∧ s = .string (PP.repB h o k)
theorem repB_size (h o : ByteArray) (n : Nat) : (PP.repB h o n).size = h.size + n * o.size := by
  rw [Lib.size_eq, PP.repB_list, PP.rep_length, Lib.size_eq, Lib.size_eq]
section
set_option maxHeartbeats 4000000
set_option maxRecDepth 100000
theorem limits_0 (a : Nat) (w : World) (hg : SignsIs w) (hO : OpsIs w) (ha : a ≤ 255) (hm : a % 5 = 0) :
    Calls Tryd.prog 8 #[.int .u8 (a : Int)] w fun e w' => e = .returned (.bool true) ∧ Below w.heap.size w w' := by
  have HG := Lib.hid hg
  have HO := Lib.hid hO
  have HA := Lib.hid (awake13_any w hg hO)
  have hnot : ∀ (x : Bool) (w : World), (Op.unary .not (.bool x)).run Tryd.prog w = .ok (.bool (!x)) w := fun _ _ => rfl
  have am : (a : Int) % 5 = 0 := by omega
  clear hg hO hm
  go_enter Tryd.func8, Tryd.ntmps8
  go_wp2_with fail
  refine HA.out.mono ?_
  rintro e w1 ⟨rfl, hb1⟩
  have HB1 := Lib.hid hb1
  clear hb1 HA
  go_wp2_with fail
  go_loop [8, 30] (fun s i => RepRel ⟨#[]⟩ ⟨#[115, 104, 97, 114, 101, 100, 32, 115, 91, 49, 93, 59, 32]⟩ 4 s i) (fun _ i => 4 - (intOf i).toNat)
  case atStart => exact ⟨0, by omega, rfl, rfl⟩
  case round =>
    obtain ⟨k, hk, rfl, rfl⟩ := hrel
    have hsz := repB_size ⟨#[]⟩ ⟨#[115, 104, 97, 114, 101, 100, 32, 115, 91, 49, 93, 59, 32]⟩ k
    have z1 : (⟨#[]⟩ : ByteArray).size = 0 := rfl
    have z2 : (⟨#[115, 104, 97, 114, 101, 100, 32, 115, 91, 49, 93, 59, 32]⟩ : ByteArray).size = 13 := rfl
    have hs1 : (PP.repB ⟨#[]⟩ ⟨#[115, 104, 97, 114, 101, 100, 32, 115, 91, 49, 93, 59, 32]⟩ k).size ≤ 400 := by rw [hsz, z1, z2]; omega
    by_cases hlt : k < 4
    · clear hsz z1 z2
      go_wp2_with fail
      go_round
      case rel => exact ⟨k + 1, by omega, by go_num, rfl⟩
      case measure => simp [intOf]; omega
    · obtain rfl : k = 4 := by omega
      have hls := PP.repB_list ⟨#[]⟩ ⟨#[115, 104, 97, 114, 101, 100, 32, 115, 91, 49, 93, 59, 32]⟩ 4
      rw [z1, z2] at hsz
      generalize PP.repB ⟨#[]⟩ ⟨#[115, 104, 97, 114, 101, 100, 32, 115, 91, 49, 93, 59, 32]⟩ 4 = S at *
      have HLS := Lib.hid (show S.data.toList = PP.rep [] [115, 104, 97, 114, 101, 100, 32, 115, 91, 49, 93, 59, 32] 4 from hls)
      have HSZ := Lib.hid (show S.size = 52 from hsz)
      clear hls hsz z1 z2
      have ea : ((52 : Int) == (S.size : Int)) = true := by rw [HSZ.out]; rfl
      have hP1 := program_ans (S ++ ⟨#[]⟩) w1 (by rw [Lib.size_eq, ByteArray.data_append]; simp; have := HLS.out; have h2 := HSZ.out; rw [Lib.size_eq] at h2; simp at h2; unfold maxLen; omega) (HG.out.below HB1.out HG.out.pos) (HO.out.below HB1.out) (by rw [ByteArray.data_append]; simp [HLS.out]) PP.lim_s0 (fun _ => rfl)
      have HP1 := Lib.hid hP1
      clear hP1
      go_wp2_with fail
      refine HP1.out.mono ?_
      rintro e w2 ⟨A, k, c, A', k', c', rfl, hb2⟩
      have hB2 := HB1.out.trans (hb2.mono HB1.out.size)
      have hB3 := hB2.alloc hB2.size (.cells #[.slice A k c, .slice A' k' c'] 39)
      have hP2 := program_ans (S ++ ⟨#[115, 104, 97, 114, 101, 100, 32, 115, 91, 49, 93, 59, 32]⟩ ++ ⟨#[]⟩) _ (by rw [Lib.size_eq, ByteArray.data_append, ByteArray.data_append]; simp; have h2 := HSZ.out; rw [Lib.size_eq] at h2; simp at h2; unfold maxLen; omega) (HG.out.below hB3 HG.out.pos) (HO.out.below hB3) (by rw [ByteArray.data_append, ByteArray.data_append]; simp [HLS.out]) PP.lim_t0 (fun h => by cases h)
      have HP2 := Lib.hid hP2
      have HB3 := Lib.hid hB3
      clear hP2 hB2 hB3 hb2 HP1
      go_wp2_with fail
      refine HP2.out.mono ?_
      rintro e w4 ⟨A4, k4, c4, A4', k4', c4', rfl, hb4⟩
      have HB4 := Lib.hid (HB3.out.trans (hb4.mono HB3.out.size))
      clear hb4 HP2
      go_wp2_with fail
      go_ret
      exact ⟨rfl, HB4.out.alloc HB4.out.size _⟩
theorem limits_1 (a : Nat) (w : World) (hg : SignsIs w) (hO : OpsIs w) (ha : a ≤ 255) (hm : a % 5 = 1) :
    Calls Tryd.prog 8 #[.int .u8 (a : Int)] w fun e w' => e = .returned (.bool true) ∧ Below w.heap.size w w' := by
  have HG := Lib.hid hg
  have HO := Lib.hid hO
  have HA := Lib.hid (awake13_any w hg hO)
  have hnot : ∀ (x : Bool) (w : World), (Op.unary .not (.bool x)).run Tryd.prog w = .ok (.bool (!x)) w := fun _ _ => rfl
  have am : (a : Int) % 5 = 1 := by omega
  clear hg hO hm
  go_enter Tryd.func8, Tryd.ntmps8
  go_wp2_with fail
  refine HA.out.mono ?_
  rintro e w1 ⟨rfl, hb1⟩
  have HB1 := Lib.hid hb1
  clear hb1 HA
  go_wp2_with fail
  go_loop [8, 30] (fun s i => RepRel ⟨#[]⟩ ⟨#[116, 97, 115, 107, 32, 116, 32, 112, 101, 114, 105, 111, 100, 32, 49, 32, 123, 125, 32]⟩ 8 s i) (fun _ i => 8 - (intOf i).toNat)
  case atStart => exact ⟨0, by omega, rfl, rfl⟩
  case round =>
    obtain ⟨k, hk, rfl, rfl⟩ := hrel
    have hsz := repB_size ⟨#[]⟩ ⟨#[116, 97, 115, 107, 32, 116, 32, 112, 101, 114, 105, 111, 100, 32, 49, 32, 123, 125, 32]⟩ k
    have z1 : (⟨#[]⟩ : ByteArray).size = 0 := rfl
    have z2 : (⟨#[116, 97, 115, 107, 32, 116, 32, 112, 101, 114, 105, 111, 100, 32, 49, 32, 123, 125, 32]⟩ : ByteArray).size = 19 := rfl
    have hs1 : (PP.repB ⟨#[]⟩ ⟨#[116, 97, 115, 107, 32, 116, 32, 112, 101, 114, 105, 111, 100, 32, 49, 32, 123, 125, 32]⟩ k).size ≤ 400 := by rw [hsz, z1, z2]; omega
    by_cases hlt : k < 8
    · clear hsz z1 z2
      go_wp2_with fail
      go_round
      case rel => exact ⟨k + 1, by omega, by go_num, rfl⟩
      case measure => simp [intOf]; omega
    · obtain rfl : k = 8 := by omega
      have hls := PP.repB_list ⟨#[]⟩ ⟨#[116, 97, 115, 107, 32, 116, 32, 112, 101, 114, 105, 111, 100, 32, 49, 32, 123, 125, 32]⟩ 8
      rw [z1, z2] at hsz
      generalize PP.repB ⟨#[]⟩ ⟨#[116, 97, 115, 107, 32, 116, 32, 112, 101, 114, 105, 111, 100, 32, 49, 32, 123, 125, 32]⟩ 8 = S at *
      have HLS := Lib.hid (show S.data.toList = PP.rep [] [116, 97, 115, 107, 32, 116, 32, 112, 101, 114, 105, 111, 100, 32, 49, 32, 123, 125, 32] 8 from hls)
      have HSZ := Lib.hid (show S.size = 152 from hsz)
      clear hls hsz z1 z2
      have ea : ((152 : Int) == (S.size : Int)) = true := by rw [HSZ.out]; rfl
      have hP1 := program_ans (S ++ ⟨#[]⟩) w1 (by rw [Lib.size_eq, ByteArray.data_append]; simp; have := HLS.out; have h2 := HSZ.out; rw [Lib.size_eq] at h2; simp at h2; unfold maxLen; omega) (HG.out.below HB1.out HG.out.pos) (HO.out.below HB1.out) (by rw [ByteArray.data_append]; simp [HLS.out]) PP.lim_s1 (fun _ => rfl)
      have HP1 := Lib.hid hP1
      clear hP1
      go_wp2_with fail
      refine HP1.out.mono ?_
      rintro e w2 ⟨A, k, c, A', k', c', rfl, hb2⟩
      have hB2 := HB1.out.trans (hb2.mono HB1.out.size)
      have hB3 := hB2.alloc hB2.size (.cells #[.slice A k c, .slice A' k' c'] 39)
      have hP2 := program_ans (S ++ ⟨#[116, 97, 115, 107, 32, 116, 32, 112, 101, 114, 105, 111, 100, 32, 49, 32, 123, 125, 32]⟩ ++ ⟨#[]⟩) _ (by rw [Lib.size_eq, ByteArray.data_append, ByteArray.data_append]; simp; have h2 := HSZ.out; rw [Lib.size_eq] at h2; simp at h2; unfold maxLen; omega) (HG.out.below hB3 HG.out.pos) (HO.out.below hB3) (by rw [ByteArray.data_append, ByteArray.data_append]; simp [HLS.out]) PP.lim_t1 (fun h => by cases h)
      have HP2 := Lib.hid hP2
      have HB3 := Lib.hid hB3
      clear hP2 hB2 hB3 hb2 HP1
      go_wp2_with fail
      refine HP2.out.mono ?_
      rintro e w4 ⟨A4, k4, c4, A4', k4', c4', rfl, hb4⟩
      have HB4 := Lib.hid (HB3.out.trans (hb4.mono HB3.out.size))
      clear hb4 HP2
      go_wp2_with fail
      go_ret
      exact ⟨rfl, HB4.out.alloc HB4.out.size _⟩
theorem limits_2 (a : Nat) (w : World) (hg : SignsIs w) (hO : OpsIs w) (ha : a ≤ 255) (hm : a % 5 = 2) :
    Calls Tryd.prog 8 #[.int .u8 (a : Int)] w fun e w' => e = .returned (.bool true) ∧ Below w.heap.size w w' := by
  have HG := Lib.hid hg
  have HO := Lib.hid hO
  have HA := Lib.hid (awake13_any w hg hO)
  have hnot : ∀ (x : Bool) (w : World), (Op.unary .not (.bool x)).run Tryd.prog w = .ok (.bool (!x)) w := fun _ _ => rfl
  have am : (a : Int) % 5 = 2 := by omega
  clear hg hO hm
  go_enter Tryd.func8, Tryd.ntmps8
  go_wp2_with fail
  refine HA.out.mono ?_
  rintro e w1 ⟨rfl, hb1⟩
  have HB1 := Lib.hid hb1
  clear hb1 HA
  go_wp2_with fail
  go_loop [8, 30] (fun s i => RepRel ⟨#[116, 97, 115, 107, 32, 116, 32, 112, 101, 114, 105, 111, 100, 32, 49, 32, 123, 32]⟩ ⟨#[118, 97, 114, 32, 120, 59, 32]⟩ 12 s i) (fun _ i => 12 - (intOf i).toNat)
  case atStart => exact ⟨0, by omega, rfl, rfl⟩
  case round =>
    obtain ⟨k, hk, rfl, rfl⟩ := hrel
    have hsz := repB_size ⟨#[116, 97, 115, 107, 32, 116, 32, 112, 101, 114, 105, 111, 100, 32, 49, 32, 123, 32]⟩ ⟨#[118, 97, 114, 32, 120, 59, 32]⟩ k
    have z1 : (⟨#[116, 97, 115, 107, 32, 116, 32, 112, 101, 114, 105, 111, 100, 32, 49, 32, 123, 32]⟩ : ByteArray).size = 18 := rfl
    have z2 : (⟨#[118, 97, 114, 32, 120, 59, 32]⟩ : ByteArray).size = 7 := rfl
    have hs1 : (PP.repB ⟨#[116, 97, 115, 107, 32, 116, 32, 112, 101, 114, 105, 111, 100, 32, 49, 32, 123, 32]⟩ ⟨#[118, 97, 114, 32, 120, 59, 32]⟩ k).size ≤ 400 := by rw [hsz, z1, z2]; omega
    by_cases hlt : k < 12
    · clear hsz z1 z2
      go_wp2_with fail
      go_round
      case rel => exact ⟨k + 1, by omega, by go_num, rfl⟩
      case measure => simp [intOf]; omega
    · obtain rfl : k = 12 := by omega
      have hls := PP.repB_list ⟨#[116, 97, 115, 107, 32, 116, 32, 112, 101, 114, 105, 111, 100, 32, 49, 32, 123, 32]⟩ ⟨#[118, 97, 114, 32, 120, 59, 32]⟩ 12
      rw [z1, z2] at hsz
      generalize PP.repB ⟨#[116, 97, 115, 107, 32, 116, 32, 112, 101, 114, 105, 111, 100, 32, 49, 32, 123, 32]⟩ ⟨#[118, 97, 114, 32, 120, 59, 32]⟩ 12 = S at *
      have HLS := Lib.hid (show S.data.toList = PP.rep [116, 97, 115, 107, 32, 116, 32, 112, 101, 114, 105, 111, 100, 32, 49, 32, 123, 32] [118, 97, 114, 32, 120, 59, 32] 12 from hls)
      have HSZ := Lib.hid (show S.size = 102 from hsz)
      clear hls hsz z1 z2
      have ea : ((102 : Int) == (S.size : Int)) = true := by rw [HSZ.out]; rfl
      have hP1 := program_ans (S ++ ⟨#[125]⟩) w1 (by rw [Lib.size_eq, ByteArray.data_append]; simp; have := HLS.out; have h2 := HSZ.out; rw [Lib.size_eq] at h2; simp at h2; unfold maxLen; omega) (HG.out.below HB1.out HG.out.pos) (HO.out.below HB1.out) (by rw [ByteArray.data_append]; simp [HLS.out]) PP.lim_s2 (fun _ => rfl)
      have HP1 := Lib.hid hP1
      clear hP1
      go_wp2_with fail
      refine HP1.out.mono ?_
      rintro e w2 ⟨A, k, c, A', k', c', rfl, hb2⟩
      have hB2 := HB1.out.trans (hb2.mono HB1.out.size)
      have hB3 := hB2.alloc hB2.size (.cells #[.slice A k c, .slice A' k' c'] 39)
      have hP2 := program_ans (S ++ ⟨#[118, 97, 114, 32, 120, 59, 32]⟩ ++ ⟨#[125]⟩) _ (by rw [Lib.size_eq, ByteArray.data_append, ByteArray.data_append]; simp; have h2 := HSZ.out; rw [Lib.size_eq] at h2; simp at h2; unfold maxLen; omega) (HG.out.below hB3 HG.out.pos) (HO.out.below hB3) (by rw [ByteArray.data_append, ByteArray.data_append]; simp [HLS.out]) PP.lim_t2 (fun h => by cases h)
      have HP2 := Lib.hid hP2
      have HB3 := Lib.hid hB3
      clear hP2 hB2 hB3 hb2 HP1
      go_wp2_with fail
      refine HP2.out.mono ?_
      rintro e w4 ⟨A4, k4, c4, A4', k4', c4', rfl, hb4⟩
      have HB4 := Lib.hid (HB3.out.trans (hb4.mono HB3.out.size))
      clear hb4 HP2
      go_wp2_with fail
      go_ret
      exact ⟨rfl, HB4.out.alloc HB4.out.size _⟩
theorem limits_3 (a : Nat) (w : World) (hg : SignsIs w) (hO : OpsIs w) (ha : a ≤ 255) (hm : a % 5 = 3) :
    Calls Tryd.prog 8 #[.int .u8 (a : Int)] w fun e w' => e = .returned (.bool true) ∧ Below w.heap.size w w' := by
  have HG := Lib.hid hg
  have HO := Lib.hid hO
  have HA := Lib.hid (awake13_any w hg hO)
  have hnot : ∀ (x : Bool) (w : World), (Op.unary .not (.bool x)).run Tryd.prog w = .ok (.bool (!x)) w := fun _ _ => rfl
  have am : (a : Int) % 5 = 3 := by omega
  clear hg hO hm
  go_enter Tryd.func8, Tryd.ntmps8
  go_wp2_with fail
  refine HA.out.mono ?_
  rintro e w1 ⟨rfl, hb1⟩
  have HB1 := Lib.hid hb1
  clear hb1 HA
  go_wp2_with fail
  go_loop [8, 30] (fun s i => RepRel ⟨#[116, 97, 115, 107, 32, 116, 32, 112, 101, 114, 105, 111, 100, 32, 49, 32, 123, 32]⟩ ⟨#[97, 114, 114, 97, 121, 32, 97, 91, 50, 93, 59, 32]⟩ 4 s i) (fun _ i => 4 - (intOf i).toNat)
  case atStart => exact ⟨0, by omega, rfl, rfl⟩
  case round =>
    obtain ⟨k, hk, rfl, rfl⟩ := hrel
    have hsz := repB_size ⟨#[116, 97, 115, 107, 32, 116, 32, 112, 101, 114, 105, 111, 100, 32, 49, 32, 123, 32]⟩ ⟨#[97, 114, 114, 97, 121, 32, 97, 91, 50, 93, 59, 32]⟩ k
    have z1 : (⟨#[116, 97, 115, 107, 32, 116, 32, 112, 101, 114, 105, 111, 100, 32, 49, 32, 123, 32]⟩ : ByteArray).size = 18 := rfl
    have z2 : (⟨#[97, 114, 114, 97, 121, 32, 97, 91, 50, 93, 59, 32]⟩ : ByteArray).size = 12 := rfl
    have hs1 : (PP.repB ⟨#[116, 97, 115, 107, 32, 116, 32, 112, 101, 114, 105, 111, 100, 32, 49, 32, 123, 32]⟩ ⟨#[97, 114, 114, 97, 121, 32, 97, 91, 50, 93, 59, 32]⟩ k).size ≤ 400 := by rw [hsz, z1, z2]; omega
    by_cases hlt : k < 4
    · clear hsz z1 z2
      go_wp2_with fail
      go_round
      case rel => exact ⟨k + 1, by omega, by go_num, rfl⟩
      case measure => simp [intOf]; omega
    · obtain rfl : k = 4 := by omega
      have hls := PP.repB_list ⟨#[116, 97, 115, 107, 32, 116, 32, 112, 101, 114, 105, 111, 100, 32, 49, 32, 123, 32]⟩ ⟨#[97, 114, 114, 97, 121, 32, 97, 91, 50, 93, 59, 32]⟩ 4
      rw [z1, z2] at hsz
      generalize PP.repB ⟨#[116, 97, 115, 107, 32, 116, 32, 112, 101, 114, 105, 111, 100, 32, 49, 32, 123, 32]⟩ ⟨#[97, 114, 114, 97, 121, 32, 97, 91, 50, 93, 59, 32]⟩ 4 = S at *
      have HLS := Lib.hid (show S.data.toList = PP.rep [116, 97, 115, 107, 32, 116, 32, 112, 101, 114, 105, 111, 100, 32, 49, 32, 123, 32] [97, 114, 114, 97, 121, 32, 97, 91, 50, 93, 59, 32] 4 from hls)
      have HSZ := Lib.hid (show S.size = 66 from hsz)
      clear hls hsz z1 z2
      have ea : ((66 : Int) == (S.size : Int)) = true := by rw [HSZ.out]; rfl
      have hP1 := program_ans (S ++ ⟨#[125]⟩) w1 (by rw [Lib.size_eq, ByteArray.data_append]; simp; have := HLS.out; have h2 := HSZ.out; rw [Lib.size_eq] at h2; simp at h2; unfold maxLen; omega) (HG.out.below HB1.out HG.out.pos) (HO.out.below HB1.out) (by rw [ByteArray.data_append]; simp [HLS.out]) PP.lim_s3 (fun _ => rfl)
      have HP1 := Lib.hid hP1
      clear hP1
      go_wp2_with fail
      refine HP1.out.mono ?_
      rintro e w2 ⟨A, k, c, A', k', c', rfl, hb2⟩
      have hB2 := HB1.out.trans (hb2.mono HB1.out.size)
      have hB3 := hB2.alloc hB2.size (.cells #[.slice A k c, .slice A' k' c'] 39)
      have hP2 := program_ans (S ++ ⟨#[97, 114, 114, 97, 121, 32, 97, 91, 50, 93, 59, 32]⟩ ++ ⟨#[125]⟩) _ (by rw [Lib.size_eq, ByteArray.data_append, ByteArray.data_append]; simp; have h2 := HSZ.out; rw [Lib.size_eq] at h2; simp at h2; unfold maxLen; omega) (HG.out.below hB3 HG.out.pos) (HO.out.below hB3) (by rw [ByteArray.data_append, ByteArray.data_append]; simp [HLS.out]) PP.lim_t3 (fun h => by cases h)
      have HP2 := Lib.hid hP2
      have HB3 := Lib.hid hB3
      clear hP2 hB2 hB3 hb2 HP1
      go_wp2_with fail
      refine HP2.out.mono ?_
      rintro e w4 ⟨A4, k4, c4, A4', k4', c4', rfl, hb4⟩
      have HB4 := Lib.hid (HB3.out.trans (hb4.mono HB3.out.size))
      clear hb4 HP2
      go_wp2_with fail
      go_ret
      exact ⟨rfl, HB4.out.alloc HB4.out.size _⟩
theorem limits_4 (a : Nat) (w : World) (hg : SignsIs w) (hO : OpsIs w) (ha : a ≤ 255) (hm : a % 5 = 4) :
    Calls Tryd.prog 8 #[.int .u8 (a : Int)] w fun e w' => e = .returned (.bool true) ∧ Below w.heap.size w w' := by
  have HG := Lib.hid hg
  have HO := Lib.hid hO
  have HA := Lib.hid (awake13_any w hg hO)
  have hnot : ∀ (x : Bool) (w : World), (Op.unary .not (.bool x)).run Tryd.prog w = .ok (.bool (!x)) w := fun _ _ => rfl
  have am : (a : Int) % 5 = 4 := by omega
  clear hg hO hm
  go_enter Tryd.func8, Tryd.ntmps8
  go_wp2_with fail
  refine HA.out.mono ?_
  rintro e w1 ⟨rfl, hb1⟩
  have HB1 := Lib.hid hb1
  clear hb1 HA
  go_wp2_with fail
  go_loop [8, 30] (fun s i => RepRel ⟨#[116, 97, 115, 107, 32, 116, 32, 112, 101, 114, 105, 111, 100, 32, 49, 32, 123]⟩ ⟨#[32, 102, 111, 114, 32, 105, 32, 60, 32, 50, 32, 123]⟩ 4 s i) (fun _ i => 4 - (intOf i).toNat)
  case atStart => exact ⟨0, by omega, rfl, rfl⟩
  case round =>
    obtain ⟨k, hk, rfl, rfl⟩ := hrel
    have hsz := repB_size ⟨#[116, 97, 115, 107, 32, 116, 32, 112, 101, 114, 105, 111, 100, 32, 49, 32, 123]⟩ ⟨#[32, 102, 111, 114, 32, 105, 32, 60, 32, 50, 32, 123]⟩ k
    have z1 : (⟨#[116, 97, 115, 107, 32, 116, 32, 112, 101, 114, 105, 111, 100, 32, 49, 32, 123]⟩ : ByteArray).size = 17 := rfl
    have z2 : (⟨#[32, 102, 111, 114, 32, 105, 32, 60, 32, 50, 32, 123]⟩ : ByteArray).size = 12 := rfl
    have hs1 : (PP.repB ⟨#[116, 97, 115, 107, 32, 116, 32, 112, 101, 114, 105, 111, 100, 32, 49, 32, 123]⟩ ⟨#[32, 102, 111, 114, 32, 105, 32, 60, 32, 50, 32, 123]⟩ k).size ≤ 400 := by rw [hsz, z1, z2]; omega
    by_cases hlt : k < 4
    · clear hsz z1 z2
      go_wp2_with fail
      go_round
      case rel => exact ⟨k + 1, by omega, by go_num, rfl⟩
      case measure => simp [intOf]; omega
    · obtain rfl : k = 4 := by omega
      have hls := PP.repB_list ⟨#[116, 97, 115, 107, 32, 116, 32, 112, 101, 114, 105, 111, 100, 32, 49, 32, 123]⟩ ⟨#[32, 102, 111, 114, 32, 105, 32, 60, 32, 50, 32, 123]⟩ 4
      rw [z1, z2] at hsz
      generalize PP.repB ⟨#[116, 97, 115, 107, 32, 116, 32, 112, 101, 114, 105, 111, 100, 32, 49, 32, 123]⟩ ⟨#[32, 102, 111, 114, 32, 105, 32, 60, 32, 50, 32, 123]⟩ 4 = S at *
      have HLS := Lib.hid (show S.data.toList = PP.rep [116, 97, 115, 107, 32, 116, 32, 112, 101, 114, 105, 111, 100, 32, 49, 32, 123] [32, 102, 111, 114, 32, 105, 32, 60, 32, 50, 32, 123] 4 from hls)
      have HSZ := Lib.hid (show S.size = 65 from hsz)
      clear hls hsz z1 z2
      go_wp2_with fail
      go_loop [8, 9, 53] (fun s t i => RepRel (S ++ ⟨#[]⟩) ⟨#[125]⟩ 4 s i ∧ RepRel (S ++ ⟨#[32, 102, 111, 114, 32, 105, 32, 60, 32, 50, 32, 123]⟩ ++ ⟨#[]⟩) ⟨#[125]⟩ 4 t i) (fun _ _ i => 4 - (intOf i).toNat)
      case atStart => exact ⟨⟨0, by omega, rfl, rfl⟩, ⟨0, by omega, rfl, rfl⟩⟩
      case round =>
        obtain ⟨⟨k, hk, rfl, rfl⟩, ⟨k2, _, hkk, rfl⟩⟩ := hrel
        obtain rfl : k = k2 := by injection hkk with _ hkk; omega
        have hq1 := repB_size (S ++ ⟨#[]⟩) ⟨#[125]⟩ k
        have hq2 := repB_size (S ++ ⟨#[32, 102, 111, 114, 32, 105, 32, 60, 32, 50, 32, 123]⟩ ++ ⟨#[]⟩) ⟨#[125]⟩ k
        have z3 : (⟨#[125]⟩ : ByteArray).size = 1 := rfl
        have z4 : (S ++ ⟨#[]⟩).size ≤ 300 := by rw [Lib.size_eq, ByteArray.data_append]; simp; have h2 := HSZ.out; rw [Lib.size_eq] at h2; simp at h2; omega
        have z5 : (S ++ ⟨#[32, 102, 111, 114, 32, 105, 32, 60, 32, 50, 32, 123]⟩ ++ ⟨#[]⟩).size ≤ 300 := by rw [Lib.size_eq, ByteArray.data_append, ByteArray.data_append]; simp; have h2 := HSZ.out; rw [Lib.size_eq] at h2; simp at h2; omega
        have hs2 : (PP.repB (S ++ ⟨#[]⟩) ⟨#[125]⟩ k).size ≤ 400 := by rw [hq1, z3]; omega
        have hs3 : (PP.repB (S ++ ⟨#[32, 102, 111, 114, 32, 105, 32, 60, 32, 50, 32, 123]⟩ ++ ⟨#[]⟩) ⟨#[125]⟩ k).size ≤ 400 := by rw [hq2, z3]; omega
        clear hq1 hq2 z3 z4 z5 hkk
        by_cases hlt : k < 4
        · go_wp2_with fail
          go_round
          case rel => exact ⟨⟨k + 1, by omega, by go_num, rfl⟩, ⟨k + 1, by omega, by go_num, rfl⟩⟩
          case measure => simp [intOf]; omega
        · obtain rfl : k = 4 := by omega
          have hl2 := PP.repB_list (S ++ ⟨#[]⟩) ⟨#[125]⟩ 4
          have hl3 := PP.repB_list (S ++ ⟨#[32, 102, 111, 114, 32, 105, 32, 60, 32, 50, 32, 123]⟩ ++ ⟨#[]⟩) ⟨#[125]⟩ 4
          have e2 : (S ++ (⟨#[]⟩ : ByteArray)).data.toList = PP.rep [116, 97, 115, 107, 32, 116, 32, 112, 101, 114, 105, 111, 100, 32, 49, 32, 123] [32, 102, 111, 114, 32, 105, 32, 60, 32, 50, 32, 123] 4 ++ [] := by rw [ByteArray.data_append]; simp [HLS.out]
          have e3 : (S ++ (⟨#[32, 102, 111, 114, 32, 105, 32, 60, 32, 50, 32, 123]⟩ : ByteArray) ++ (⟨#[]⟩ : ByteArray)).data.toList = PP.rep [116, 97, 115, 107, 32, 116, 32, 112, 101, 114, 105, 111, 100, 32, 49, 32, 123] [32, 102, 111, 114, 32, 105, 32, 60, 32, 50, 32, 123] 4 ++ [32, 102, 111, 114, 32, 105, 32, 60, 32, 50, 32, 123] ++ [] := by rw [ByteArray.data_append, ByteArray.data_append]; simp [HLS.out]
          rw [e2] at hl2
          rw [e3] at hl3
          generalize PP.repB (S ++ ⟨#[]⟩) ⟨#[125]⟩ 4 = U at *
          generalize PP.repB (S ++ ⟨#[32, 102, 111, 114, 32, 105, 32, 60, 32, 50, 32, 123]⟩ ++ ⟨#[]⟩) ⟨#[125]⟩ 4 = V at *
          have hP1 := program_ans (U ++ ⟨#[125]⟩) w1 (by rw [Lib.size_eq, ByteArray.data_append]; simp; rw [Lib.size_eq] at hs2; simp at hs2; unfold maxLen; omega) (HG.out.below HB1.out HG.out.pos) (HO.out.below HB1.out) (by rw [ByteArray.data_append, Array.toList_append, hl2]) PP.lim_s4 (fun _ => rfl)
          have HP1 := Lib.hid hP1
          have HL3 := Lib.hid hl3
          clear hP1 hl2 hl3 e2 e3
          go_wp2_with fail
          refine HP1.out.mono ?_
          rintro e w2 ⟨A, k, c, A', k', c', rfl, hb2⟩
          have hB2 := HB1.out.trans (hb2.mono HB1.out.size)
          have hB3 := hB2.alloc hB2.size (.cells #[.slice A k c, .slice A' k' c'] 39)
          have hP2 := program_ans (V ++ ⟨#[125, 125]⟩) _ (by rw [Lib.size_eq, ByteArray.data_append]; simp; rw [Lib.size_eq] at hs3; simp at hs3; unfold maxLen; omega) (HG.out.below hB3 HG.out.pos) (HO.out.below hB3) (by rw [ByteArray.data_append, Array.toList_append, HL3.out]) PP.lim_t4 (fun h => by cases h)
          have HP2 := Lib.hid hP2
          have HB3 := Lib.hid hB3
          clear hP2 hB2 hB3 hb2 HP1
          go_wp2_with fail
          refine HP2.out.mono ?_
          rintro e w4 ⟨A4, k4, c4, A4', k4', c4', rfl, hb4⟩
          have HB4 := Lib.hid (HB3.out.trans (hb4.mono HB3.out.size))
          clear hb4 HP2
          go_wp2_with fail
          go_ret
          exact ⟨rfl, HB4.out.alloc HB4.out.size _⟩
theorem limits_walk (a : Nat) (w : World) (hg : SignsIs w) (hO : OpsIs w) (ha : a ≤ 255) :
    Calls Tryd.prog 8 #[.int .u8 (a : Int)] w fun e w' => e = .returned (.bool true) ∧ Below w.heap.size w w' := by
  rcases (show a % 5 = 0 ∨ a % 5 = 1 ∨ a % 5 = 2 ∨ a % 5 = 3 ∨ a % 5 = 4 by omega) with h | h | h | h | h
  · exact limits_0 a w hg hO ha h
  · exact limits_1 a w hg hO ha h
  · exact limits_2 a w hg hO ha h
  · exact limits_3 a w hg hO ha h
  · exact limits_4 a w hg hO ha h
end
end Go.Proofs.YtaaaicpjlaeiiaaDoor
