/- ParserNumbers: constants of up to 31 bits are read exactly, greater ones are out of range, as are lengths, periods, bounds and ports beyond their limits (written by wip/gennum.py). -/
import Derived.Test.YtaaaicpjlaeiiaaDoorDecimal13
namespace Go.Proofs.YtaaaicpjlaeiiaaDoor
open Go.RowKit Go.Maps
open PP (Tree ArrD TaskD ProgD)

def ZRel (n m : Nat) (s i : Value) : Prop := ∃ (k : Nat) (S : ByteArray), k ≤ m ∧ i = .int .i64 (k : Int) ∧ s = .string S ∧ S.data.toList = PP.zeros k n
theorem zeros_len (k n : Nat) : (PP.zeros k n).length ≤ k + 20 := by
  unfold PP.zeros PP.dec
  rw [List.length_append, List.length_replicate]
  have := PP.decF_len 20 n
  omega
section
set_option maxHeartbeats 4000000
set_option maxRecDepth 100000
theorem numbers_0_big (n z q : Nat) (w : World) (hg : SignsIs w) (hO : OpsIs w) (hn : n ≤ 4294967295) (hz : z ≤ 255) (hq : q ≤ 255) (hm : q % 5 = 0) (hbig : 2147483647 < n) :
    Calls Tryd.prog 7 #[.int .u32 (n : Int), .int .u8 (z : Int), .int .u8 (q : Int)] w fun e w' => e = .returned (.bool true) ∧ Below w.heap.size w w' := by
  have HG := Lib.hid hg
  have HO := Lib.hid hO
  have HA := Lib.hid (awake13_any w hg hO)
  have hnot : ∀ (x : Bool) (w : World), (Op.unary .not (.bool x)).run Tryd.prog w = .ok (.bool (!x)) w := fun _ _ => rfl
  have am : (q : Int) % 5 = 0 := by omega
  clear hg hO hm
  go_enter Tryd.func7, Tryd.ntmps7
  go_wp2_with fail
  refine HA.out.mono ?_
  rintro e w1 ⟨rfl, hb1⟩
  have HB1 := Lib.hid hb1
  clear hb1 HA
  go_wp2_with fail
  refine (decimal_any n w1 hn).mono ?_
  rintro e w2 ⟨rfl, hb2⟩
  have HB2 := Lib.hid (HB1.out.trans (hb2.mono HB1.out.size))
  clear hb2 HB1
  generalize hS0 : (⟨(PP.dec n).toArray⟩ : ByteArray) = S0
  have HS0 := Lib.hid (show S0.data.toList = PP.dec n by rw [← hS0])
  clear hS0
  go_wp2_with fail
  have hz30 : (z : Int) % 30 = ((z % 30 : Nat) : Int) := by omega
  have hz3 : z % 30 < 30 := Nat.mod_lt _ (by omega)
  rw [hz30]
  clear hz30
  generalize z % 30 = m at *
  go_loop [7, 26] (fun s i => ZRel n m s i) (fun _ i => m - (intOf i).toNat)
  case atStart => exact ⟨0, S0, by omega, rfl, rfl, by rw [HS0.out]; rfl⟩
  case round =>
    obtain ⟨k, S, hk, rfl, rfl, hS⟩ := hrel
    have hlen : S.size ≤ 50 := by rw [Lib.size_eq, hS]; have := zeros_len k n; omega
    by_cases hlt : k < m
    · have HS' := Lib.hid (show ((⟨#[48]⟩ : ByteArray) ++ S).data.toList = PP.zeros (k + 1) n by rw [ByteArray.data_append]; simp [hS, PP.zeros, List.replicate_succ])
      clear hS
      go_wp2_with fail
      go_round
      case rel => exact ⟨k + 1, _, by omega, by go_num, rfl, HS'.out⟩
      case measure => simp [intOf]; omega
    · obtain rfl : k = m := by omega
      have hne := PP.num_expr (PP.zeros_ne k n) (PP.zeros_digit k n) (by have := zeros_len k n; omega) n (PP.zeros_val k n (by omega))
      have hls : ((⟨#[49, 32, 43, 32]⟩ : ByteArray) ++ S).data.toList = [49, 32, 43, 32] ++ PP.zeros k n := by rw [ByteArray.data_append]; simp [hS]
      have hsz : ((⟨#[49, 32, 43, 32]⟩ : ByteArray) ++ S).size ≤ maxLen := by rw [Lib.size_eq, hls, List.length_append]; have := zeros_len k n; simp; unfold maxLen; omega
      obtain ⟨t, hqq⟩ := hne.2 (by omega)
      have hex := expr_at ((⟨#[49, 32, 43, 32]⟩ : ByteArray) ++ S) w2 hsz (HG.out.below HB2.out HG.out.pos) (HO.out.below HB2.out) (n := 20) (q := (⟨2, 4, 2⟩, t)) (by rw [envOf_eq, sigOf_eq, hls]; exact hqq)
      rw [show PP.out PP.zeroT ((⟨2, 4, 2⟩ : PP.St), t) = (PP.zeroT, 4, 2) from rfl] at hex
      have u1 : decide ((2147483647 : Int) < (n : Int)) = true := by simp; omega
      have u2 : decide (2147483647 < n) = true := by simp; omega
      have HEX := Lib.hid hex
      clear hex hqq hne hls hsz hS
      go_wp2_with fail
      refine HEX.out.mono ?_
      rintro e w3 ⟨vx, rfl, hN, hb3⟩
      have hB3 := HB2.out.trans (hb3.mono HB2.out.size)
      obtain ⟨k9, num9, nm9, A9, c9, kids9, rfl, ht9, _⟩ := hN
      injection ht9 with f1 f2 f3 f4
      subst f1 f2 f3 f4
      have HB3 := Lib.hid hB3
      have hmm : ((n % 35 : Nat) : Int) = (n : Int) % 35 := by omega
      have hml : n % 35 < 35 := Nat.mod_lt _ (by omega)
      have hdc := fun W => decimal_any (n % 35) W (by omega)
      have hans := PP.numOk_ans (PP.num_k0 (n % 35) hml)
      rw [hmm] at hdc
      have HDC := Lib.hid hdc
      have hm0 : (0 : Int) ≤ (n : Int) % 35 := by omega
      clear hdc hb3 hB3 HEX HB2
      go_wp2_with fail
      refine (HDC.out _).mono ?_
      rintro e w4 ⟨rfl, hb4⟩
      have hB4 : Below w.heap.size w w4 := (HB3.out.alloc HB3.out.size _).trans (hb4.mono (by have := HB3.out.size; simp; omega))
      generalize hD : (⟨(PP.dec (n % 35)).toArray⟩ : ByteArray) = D
      have hDl : D.data.toList = PP.dec (n % 35) := by rw [← hD]
      have hDs : D.size ≤ 20 := by rw [Lib.size_eq, hDl]; exact PP.decF_len 20 _
      have hPl : ((⟨#[115, 104, 97, 114, 101, 100, 32, 115, 91]⟩ : ByteArray) ++ D ++ ⟨#[93, 59]⟩).data.toList = [115, 104, 97, 114, 101, 100, 32, 115, 91] ++ PP.dec (n % 35) ++ [93, 59] := by rw [ByteArray.data_append, ByteArray.data_append]; simp [hDl]
      have hPs : ((⟨#[115, 104, 97, 114, 101, 100, 32, 115, 91]⟩ : ByteArray) ++ D ++ ⟨#[93, 59]⟩).size ≤ maxLen := by rw [Lib.size_eq, hPl]; have := PP.decF_len 20 (n % 35); simp [PP.dec]; unfold maxLen; omega
      clear hD hDl hb4 HDC
      by_cases hin : 1 ≤ n % 35 ∧ n % 35 ≤ 32
      · rw [if_pos hin] at hans
        have hP := program_ans _ w4 hPs (HG.out.below hB4 HG.out.pos) (HO.out.below hB4) hPl hans (fun _ => rfl)
        have v1 : decide ((1 : Int) ≤ (n : Int) % 35) = true := by simp; omega
        have v2 : decide ((n : Int) % 35 ≤ 32) = true := by simp; omega
        have HP := Lib.hid hP
        have HB4 := Lib.hid hB4
        clear hP hans hPl hPs hB4 hin
        go_wp2_with fail
        refine HP.out.mono ?_
        rintro e w5 ⟨A5, k5, c5, A5', k5', c5', rfl, hb5⟩
        have HB5 := Lib.hid (HB4.out.trans (hb5.mono HB4.out.size))
        clear hb5 HP
        go_wp2_with fail
        go_ret
        exact ⟨rfl, HB5.out.alloc HB5.out.size _⟩
      · rw [if_neg hin] at hans
        have hP := program_ans _ w4 hPs (HG.out.below hB4 HG.out.pos) (HO.out.below hB4) hPl hans (fun h => by cases h)
        have HP := Lib.hid hP
        have HB4 := Lib.hid hB4
        clear hP hans hPl hPs hB4
        rcases (show n % 35 < 1 ∨ (1 ≤ n % 35 ∧ 32 < n % 35) by omega) with hl1 | ⟨hl1, hl2⟩
        · have v1 : decide ((1 : Int) ≤ (n : Int) % 35) = false := by simp; omega
          clear hin hl1
          go_wp2_with fail
          refine HP.out.mono ?_
          rintro e w5 ⟨A5, k5, c5, A5', k5', c5', rfl, hb5⟩
          have HB5 := Lib.hid (HB4.out.trans (hb5.mono HB4.out.size))
          clear hb5 HP
          go_wp2_with fail
          go_ret
          exact ⟨rfl, HB5.out.alloc HB5.out.size _⟩
        · have v1 : decide ((1 : Int) ≤ (n : Int) % 35) = true := by simp; omega
          have v2 : decide ((n : Int) % 35 ≤ 32) = false := by simp; omega
          clear hin hl1 hl2
          go_wp2_with fail
          refine HP.out.mono ?_
          rintro e w5 ⟨A5, k5, c5, A5', k5', c5', rfl, hb5⟩
          have HB5 := Lib.hid (HB4.out.trans (hb5.mono HB4.out.size))
          clear hb5 HP
          go_wp2_with fail
          go_ret
          exact ⟨rfl, HB5.out.alloc HB5.out.size _⟩
theorem numbers_0_small (n z q : Nat) (w : World) (hg : SignsIs w) (hO : OpsIs w) (hn : n ≤ 4294967295) (hz : z ≤ 255) (hq : q ≤ 255) (hm : q % 5 = 0) (hbig : n ≤ 2147483647) :
    Calls Tryd.prog 7 #[.int .u32 (n : Int), .int .u8 (z : Int), .int .u8 (q : Int)] w fun e w' => e = .returned (.bool true) ∧ Below w.heap.size w w' := by
  have HG := Lib.hid hg
  have HO := Lib.hid hO
  have HA := Lib.hid (awake13_any w hg hO)
  have hnot : ∀ (x : Bool) (w : World), (Op.unary .not (.bool x)).run Tryd.prog w = .ok (.bool (!x)) w := fun _ _ => rfl
  have am : (q : Int) % 5 = 0 := by omega
  clear hg hO hm
  go_enter Tryd.func7, Tryd.ntmps7
  go_wp2_with fail
  refine HA.out.mono ?_
  rintro e w1 ⟨rfl, hb1⟩
  have HB1 := Lib.hid hb1
  clear hb1 HA
  go_wp2_with fail
  refine (decimal_any n w1 hn).mono ?_
  rintro e w2 ⟨rfl, hb2⟩
  have HB2 := Lib.hid (HB1.out.trans (hb2.mono HB1.out.size))
  clear hb2 HB1
  generalize hS0 : (⟨(PP.dec n).toArray⟩ : ByteArray) = S0
  have HS0 := Lib.hid (show S0.data.toList = PP.dec n by rw [← hS0])
  clear hS0
  go_wp2_with fail
  have hz30 : (z : Int) % 30 = ((z % 30 : Nat) : Int) := by omega
  have hz3 : z % 30 < 30 := Nat.mod_lt _ (by omega)
  rw [hz30]
  clear hz30
  generalize z % 30 = m at *
  go_loop [7, 26] (fun s i => ZRel n m s i) (fun _ i => m - (intOf i).toNat)
  case atStart => exact ⟨0, S0, by omega, rfl, rfl, by rw [HS0.out]; rfl⟩
  case round =>
    obtain ⟨k, S, hk, rfl, rfl, hS⟩ := hrel
    have hlen : S.size ≤ 50 := by rw [Lib.size_eq, hS]; have := zeros_len k n; omega
    by_cases hlt : k < m
    · have HS' := Lib.hid (show ((⟨#[48]⟩ : ByteArray) ++ S).data.toList = PP.zeros (k + 1) n by rw [ByteArray.data_append]; simp [hS, PP.zeros, List.replicate_succ])
      clear hS
      go_wp2_with fail
      go_round
      case rel => exact ⟨k + 1, _, by omega, by go_num, rfl, HS'.out⟩
      case measure => simp [intOf]; omega
    · obtain rfl : k = m := by omega
      have hne := PP.num_expr (PP.zeros_ne k n) (PP.zeros_digit k n) (by have := zeros_len k n; omega) n (PP.zeros_val k n (by omega))
      have hls : ((⟨#[49, 32, 43, 32]⟩ : ByteArray) ++ S).data.toList = [49, 32, 43, 32] ++ PP.zeros k n := by rw [ByteArray.data_append]; simp [hS]
      have hsz : ((⟨#[49, 32, 43, 32]⟩ : ByteArray) ++ S).size ≤ maxLen := by rw [Lib.size_eq, hls, List.length_append]; have := zeros_len k n; simp; unfold maxLen; omega
      have hqq := hne.1 (by omega) (by omega)
      have hex := expr_at ((⟨#[49, 32, 43, 32]⟩ : ByteArray) ++ S) w2 hsz (HG.out.below HB2.out HG.out.pos) (HO.out.below HB2.out) (n := 20) (q := (⟨3, 0, 0⟩, .node 6 0 [] [.node 1 1 [] [], .node 1 n [] []])) (by rw [envOf_eq, sigOf_eq, hls]; exact hqq)
      rw [show PP.out PP.zeroT ((⟨3, 0, 0⟩ : PP.St), Tree.node 6 0 [] [.node 1 1 [] [], .node 1 n [] []]) = (.node 6 0 [] [.node 1 1 [] [], .node 1 n [] []], 0, 0) from rfl] at hex
      have u1 : decide ((2147483647 : Int) < (n : Int)) = false := by simp; omega
      have u2 : decide (2147483647 < n) = false := by simp; omega
      have HEX := Lib.hid hex
      clear hex hqq hne hls hsz hS
      go_wp2_with fail
      refine HEX.out.mono ?_
      rintro e w3 ⟨vx, rfl, hN, hb3⟩
      have hB3 := HB2.out.trans (hb3.mono HB2.out.size)
      obtain ⟨g9, o9, c9, k1, num1, nm1, A1, c1, ks1, k2, num2, nm2, A2, c2, ks2, rfl, hgl, _, _, h2, _, ⟨_, y1, _, _⟩, _, _⟩ := NodeV.two hN
      injection h2 with a1 a2 a3 a4
      subst a1 a2 a3 a4
      have u3 : ((n : Int) != (n : Int)) = false := by simp
      clear hN
      have HB3 := Lib.hid hB3
      have hmm : ((n % 35 : Nat) : Int) = (n : Int) % 35 := by omega
      have hml : n % 35 < 35 := Nat.mod_lt _ (by omega)
      have hdc := fun W => decimal_any (n % 35) W (by omega)
      have hans := PP.numOk_ans (PP.num_k0 (n % 35) hml)
      rw [hmm] at hdc
      have HDC := Lib.hid hdc
      have hm0 : (0 : Int) ≤ (n : Int) % 35 := by omega
      clear hdc hb3 hB3 HEX HB2
      go_wp2_with fail
      refine (HDC.out _).mono ?_
      rintro e w4 ⟨rfl, hb4⟩
      have hB4 : Below w.heap.size w w4 := (HB3.out.alloc HB3.out.size _).trans (hb4.mono (by have := HB3.out.size; simp; omega))
      generalize hD : (⟨(PP.dec (n % 35)).toArray⟩ : ByteArray) = D
      have hDl : D.data.toList = PP.dec (n % 35) := by rw [← hD]
      have hDs : D.size ≤ 20 := by rw [Lib.size_eq, hDl]; exact PP.decF_len 20 _
      have hPl : ((⟨#[115, 104, 97, 114, 101, 100, 32, 115, 91]⟩ : ByteArray) ++ D ++ ⟨#[93, 59]⟩).data.toList = [115, 104, 97, 114, 101, 100, 32, 115, 91] ++ PP.dec (n % 35) ++ [93, 59] := by rw [ByteArray.data_append, ByteArray.data_append]; simp [hDl]
      have hPs : ((⟨#[115, 104, 97, 114, 101, 100, 32, 115, 91]⟩ : ByteArray) ++ D ++ ⟨#[93, 59]⟩).size ≤ maxLen := by rw [Lib.size_eq, hPl]; have := PP.decF_len 20 (n % 35); simp [PP.dec]; unfold maxLen; omega
      clear hD hDl hb4 HDC
      by_cases hin : 1 ≤ n % 35 ∧ n % 35 ≤ 32
      · rw [if_pos hin] at hans
        have hP := program_ans _ w4 hPs (HG.out.below hB4 HG.out.pos) (HO.out.below hB4) hPl hans (fun _ => rfl)
        have v1 : decide ((1 : Int) ≤ (n : Int) % 35) = true := by simp; omega
        have v2 : decide ((n : Int) % 35 ≤ 32) = true := by simp; omega
        have HP := Lib.hid hP
        have HB4 := Lib.hid hB4
        clear hP hans hPl hPs hB4 hin
        go_wp2_with fail
        refine HP.out.mono ?_
        rintro e w5 ⟨A5, k5, c5, A5', k5', c5', rfl, hb5⟩
        have HB5 := Lib.hid (HB4.out.trans (hb5.mono HB4.out.size))
        clear hb5 HP
        go_wp2_with fail
        go_ret
        exact ⟨rfl, HB5.out.alloc HB5.out.size _⟩
      · rw [if_neg hin] at hans
        have hP := program_ans _ w4 hPs (HG.out.below hB4 HG.out.pos) (HO.out.below hB4) hPl hans (fun h => by cases h)
        have HP := Lib.hid hP
        have HB4 := Lib.hid hB4
        clear hP hans hPl hPs hB4
        rcases (show n % 35 < 1 ∨ (1 ≤ n % 35 ∧ 32 < n % 35) by omega) with hl1 | ⟨hl1, hl2⟩
        · have v1 : decide ((1 : Int) ≤ (n : Int) % 35) = false := by simp; omega
          clear hin hl1
          go_wp2_with fail
          refine HP.out.mono ?_
          rintro e w5 ⟨A5, k5, c5, A5', k5', c5', rfl, hb5⟩
          have HB5 := Lib.hid (HB4.out.trans (hb5.mono HB4.out.size))
          clear hb5 HP
          go_wp2_with fail
          go_ret
          exact ⟨rfl, HB5.out.alloc HB5.out.size _⟩
        · have v1 : decide ((1 : Int) ≤ (n : Int) % 35) = true := by simp; omega
          have v2 : decide ((n : Int) % 35 ≤ 32) = false := by simp; omega
          clear hin hl1 hl2
          go_wp2_with fail
          refine HP.out.mono ?_
          rintro e w5 ⟨A5, k5, c5, A5', k5', c5', rfl, hb5⟩
          have HB5 := Lib.hid (HB4.out.trans (hb5.mono HB4.out.size))
          clear hb5 HP
          go_wp2_with fail
          go_ret
          exact ⟨rfl, HB5.out.alloc HB5.out.size _⟩
theorem numbers_1_big (n z q : Nat) (w : World) (hg : SignsIs w) (hO : OpsIs w) (hn : n ≤ 4294967295) (hz : z ≤ 255) (hq : q ≤ 255) (hm : q % 5 = 1) (hbig : 2147483647 < n) :
    Calls Tryd.prog 7 #[.int .u32 (n : Int), .int .u8 (z : Int), .int .u8 (q : Int)] w fun e w' => e = .returned (.bool true) ∧ Below w.heap.size w w' := by
  have HG := Lib.hid hg
  have HO := Lib.hid hO
  have HA := Lib.hid (awake13_any w hg hO)
  have hnot : ∀ (x : Bool) (w : World), (Op.unary .not (.bool x)).run Tryd.prog w = .ok (.bool (!x)) w := fun _ _ => rfl
  have am : (q : Int) % 5 = 1 := by omega
  clear hg hO hm
  go_enter Tryd.func7, Tryd.ntmps7
  go_wp2_with fail
  refine HA.out.mono ?_
  rintro e w1 ⟨rfl, hb1⟩
  have HB1 := Lib.hid hb1
  clear hb1 HA
  go_wp2_with fail
  refine (decimal_any n w1 hn).mono ?_
  rintro e w2 ⟨rfl, hb2⟩
  have HB2 := Lib.hid (HB1.out.trans (hb2.mono HB1.out.size))
  clear hb2 HB1
  generalize hS0 : (⟨(PP.dec n).toArray⟩ : ByteArray) = S0
  have HS0 := Lib.hid (show S0.data.toList = PP.dec n by rw [← hS0])
  clear hS0
  go_wp2_with fail
  have hz30 : (z : Int) % 30 = ((z % 30 : Nat) : Int) := by omega
  have hz3 : z % 30 < 30 := Nat.mod_lt _ (by omega)
  rw [hz30]
  clear hz30
  generalize z % 30 = m at *
  go_loop [7, 26] (fun s i => ZRel n m s i) (fun _ i => m - (intOf i).toNat)
  case atStart => exact ⟨0, S0, by omega, rfl, rfl, by rw [HS0.out]; rfl⟩
  case round =>
    obtain ⟨k, S, hk, rfl, rfl, hS⟩ := hrel
    have hlen : S.size ≤ 50 := by rw [Lib.size_eq, hS]; have := zeros_len k n; omega
    by_cases hlt : k < m
    · have HS' := Lib.hid (show ((⟨#[48]⟩ : ByteArray) ++ S).data.toList = PP.zeros (k + 1) n by rw [ByteArray.data_append]; simp [hS, PP.zeros, List.replicate_succ])
      clear hS
      go_wp2_with fail
      go_round
      case rel => exact ⟨k + 1, _, by omega, by go_num, rfl, HS'.out⟩
      case measure => simp [intOf]; omega
    · obtain rfl : k = m := by omega
      have hne := PP.num_expr (PP.zeros_ne k n) (PP.zeros_digit k n) (by have := zeros_len k n; omega) n (PP.zeros_val k n (by omega))
      have hls : ((⟨#[49, 32, 43, 32]⟩ : ByteArray) ++ S).data.toList = [49, 32, 43, 32] ++ PP.zeros k n := by rw [ByteArray.data_append]; simp [hS]
      have hsz : ((⟨#[49, 32, 43, 32]⟩ : ByteArray) ++ S).size ≤ maxLen := by rw [Lib.size_eq, hls, List.length_append]; have := zeros_len k n; simp; unfold maxLen; omega
      obtain ⟨t, hqq⟩ := hne.2 (by omega)
      have hex := expr_at ((⟨#[49, 32, 43, 32]⟩ : ByteArray) ++ S) w2 hsz (HG.out.below HB2.out HG.out.pos) (HO.out.below HB2.out) (n := 20) (q := (⟨2, 4, 2⟩, t)) (by rw [envOf_eq, sigOf_eq, hls]; exact hqq)
      rw [show PP.out PP.zeroT ((⟨2, 4, 2⟩ : PP.St), t) = (PP.zeroT, 4, 2) from rfl] at hex
      have u1 : decide ((2147483647 : Int) < (n : Int)) = true := by simp; omega
      have u2 : decide (2147483647 < n) = true := by simp; omega
      have HEX := Lib.hid hex
      clear hex hqq hne hls hsz hS
      go_wp2_with fail
      refine HEX.out.mono ?_
      rintro e w3 ⟨vx, rfl, hN, hb3⟩
      have hB3 := HB2.out.trans (hb3.mono HB2.out.size)
      obtain ⟨k9, num9, nm9, A9, c9, kids9, rfl, ht9, _⟩ := hN
      injection ht9 with f1 f2 f3 f4
      subst f1 f2 f3 f4
      have HB3 := Lib.hid hB3
      have hmm : ((n % 1003 : Nat) : Int) = (n : Int) % 1003 := by omega
      have hml : n % 1003 < 1003 := Nat.mod_lt _ (by omega)
      have hdc := fun W => decimal_any (n % 1003) W (by omega)
      have hans := PP.numOk_ans (PP.num_k1 (n % 1003) hml)
      rw [hmm] at hdc
      have HDC := Lib.hid hdc
      have hm0 : (0 : Int) ≤ (n : Int) % 1003 := by omega
      clear hdc hb3 hB3 HEX HB2
      go_wp2_with fail
      refine (HDC.out _).mono ?_
      rintro e w4 ⟨rfl, hb4⟩
      have hB4 : Below w.heap.size w w4 := (HB3.out.alloc HB3.out.size _).trans (hb4.mono (by have := HB3.out.size; simp; omega))
      generalize hD : (⟨(PP.dec (n % 1003)).toArray⟩ : ByteArray) = D
      have hDl : D.data.toList = PP.dec (n % 1003) := by rw [← hD]
      have hDs : D.size ≤ 20 := by rw [Lib.size_eq, hDl]; exact PP.decF_len 20 _
      have hPl : ((⟨#[116, 97, 115, 107, 32, 116, 32, 112, 101, 114, 105, 111, 100, 32]⟩ : ByteArray) ++ D ++ ⟨#[32, 123, 125]⟩).data.toList = [116, 97, 115, 107, 32, 116, 32, 112, 101, 114, 105, 111, 100, 32] ++ PP.dec (n % 1003) ++ [32, 123, 125] := by rw [ByteArray.data_append, ByteArray.data_append]; simp [hDl]
      have hPs : ((⟨#[116, 97, 115, 107, 32, 116, 32, 112, 101, 114, 105, 111, 100, 32]⟩ : ByteArray) ++ D ++ ⟨#[32, 123, 125]⟩).size ≤ maxLen := by rw [Lib.size_eq, hPl]; have := PP.decF_len 20 (n % 1003); simp [PP.dec]; unfold maxLen; omega
      clear hD hDl hb4 HDC
      by_cases hin : 1 ≤ n % 1003 ∧ n % 1003 ≤ 1000
      · rw [if_pos hin] at hans
        have hP := program_ans _ w4 hPs (HG.out.below hB4 HG.out.pos) (HO.out.below hB4) hPl hans (fun _ => rfl)
        have v1 : decide ((1 : Int) ≤ (n : Int) % 1003) = true := by simp; omega
        have v2 : decide ((n : Int) % 1003 ≤ 1000) = true := by simp; omega
        have HP := Lib.hid hP
        have HB4 := Lib.hid hB4
        clear hP hans hPl hPs hB4 hin
        go_wp2_with fail
        refine HP.out.mono ?_
        rintro e w5 ⟨A5, k5, c5, A5', k5', c5', rfl, hb5⟩
        have HB5 := Lib.hid (HB4.out.trans (hb5.mono HB4.out.size))
        clear hb5 HP
        go_wp2_with fail
        go_ret
        exact ⟨rfl, HB5.out.alloc HB5.out.size _⟩
      · rw [if_neg hin] at hans
        have hP := program_ans _ w4 hPs (HG.out.below hB4 HG.out.pos) (HO.out.below hB4) hPl hans (fun h => by cases h)
        have HP := Lib.hid hP
        have HB4 := Lib.hid hB4
        clear hP hans hPl hPs hB4
        rcases (show n % 1003 < 1 ∨ (1 ≤ n % 1003 ∧ 1000 < n % 1003) by omega) with hl1 | ⟨hl1, hl2⟩
        · have v1 : decide ((1 : Int) ≤ (n : Int) % 1003) = false := by simp; omega
          clear hin hl1
          go_wp2_with fail
          refine HP.out.mono ?_
          rintro e w5 ⟨A5, k5, c5, A5', k5', c5', rfl, hb5⟩
          have HB5 := Lib.hid (HB4.out.trans (hb5.mono HB4.out.size))
          clear hb5 HP
          go_wp2_with fail
          go_ret
          exact ⟨rfl, HB5.out.alloc HB5.out.size _⟩
        · have v1 : decide ((1 : Int) ≤ (n : Int) % 1003) = true := by simp; omega
          have v2 : decide ((n : Int) % 1003 ≤ 1000) = false := by simp; omega
          clear hin hl1 hl2
          go_wp2_with fail
          refine HP.out.mono ?_
          rintro e w5 ⟨A5, k5, c5, A5', k5', c5', rfl, hb5⟩
          have HB5 := Lib.hid (HB4.out.trans (hb5.mono HB4.out.size))
          clear hb5 HP
          go_wp2_with fail
          go_ret
          exact ⟨rfl, HB5.out.alloc HB5.out.size _⟩
theorem numbers_1_small (n z q : Nat) (w : World) (hg : SignsIs w) (hO : OpsIs w) (hn : n ≤ 4294967295) (hz : z ≤ 255) (hq : q ≤ 255) (hm : q % 5 = 1) (hbig : n ≤ 2147483647) :
    Calls Tryd.prog 7 #[.int .u32 (n : Int), .int .u8 (z : Int), .int .u8 (q : Int)] w fun e w' => e = .returned (.bool true) ∧ Below w.heap.size w w' := by
  have HG := Lib.hid hg
  have HO := Lib.hid hO
  have HA := Lib.hid (awake13_any w hg hO)
  have hnot : ∀ (x : Bool) (w : World), (Op.unary .not (.bool x)).run Tryd.prog w = .ok (.bool (!x)) w := fun _ _ => rfl
  have am : (q : Int) % 5 = 1 := by omega
  clear hg hO hm
  go_enter Tryd.func7, Tryd.ntmps7
  go_wp2_with fail
  refine HA.out.mono ?_
  rintro e w1 ⟨rfl, hb1⟩
  have HB1 := Lib.hid hb1
  clear hb1 HA
  go_wp2_with fail
  refine (decimal_any n w1 hn).mono ?_
  rintro e w2 ⟨rfl, hb2⟩
  have HB2 := Lib.hid (HB1.out.trans (hb2.mono HB1.out.size))
  clear hb2 HB1
  generalize hS0 : (⟨(PP.dec n).toArray⟩ : ByteArray) = S0
  have HS0 := Lib.hid (show S0.data.toList = PP.dec n by rw [← hS0])
  clear hS0
  go_wp2_with fail
  have hz30 : (z : Int) % 30 = ((z % 30 : Nat) : Int) := by omega
  have hz3 : z % 30 < 30 := Nat.mod_lt _ (by omega)
  rw [hz30]
  clear hz30
  generalize z % 30 = m at *
  go_loop [7, 26] (fun s i => ZRel n m s i) (fun _ i => m - (intOf i).toNat)
  case atStart => exact ⟨0, S0, by omega, rfl, rfl, by rw [HS0.out]; rfl⟩
  case round =>
    obtain ⟨k, S, hk, rfl, rfl, hS⟩ := hrel
    have hlen : S.size ≤ 50 := by rw [Lib.size_eq, hS]; have := zeros_len k n; omega
    by_cases hlt : k < m
    · have HS' := Lib.hid (show ((⟨#[48]⟩ : ByteArray) ++ S).data.toList = PP.zeros (k + 1) n by rw [ByteArray.data_append]; simp [hS, PP.zeros, List.replicate_succ])
      clear hS
      go_wp2_with fail
      go_round
      case rel => exact ⟨k + 1, _, by omega, by go_num, rfl, HS'.out⟩
      case measure => simp [intOf]; omega
    · obtain rfl : k = m := by omega
      have hne := PP.num_expr (PP.zeros_ne k n) (PP.zeros_digit k n) (by have := zeros_len k n; omega) n (PP.zeros_val k n (by omega))
      have hls : ((⟨#[49, 32, 43, 32]⟩ : ByteArray) ++ S).data.toList = [49, 32, 43, 32] ++ PP.zeros k n := by rw [ByteArray.data_append]; simp [hS]
      have hsz : ((⟨#[49, 32, 43, 32]⟩ : ByteArray) ++ S).size ≤ maxLen := by rw [Lib.size_eq, hls, List.length_append]; have := zeros_len k n; simp; unfold maxLen; omega
      have hqq := hne.1 (by omega) (by omega)
      have hex := expr_at ((⟨#[49, 32, 43, 32]⟩ : ByteArray) ++ S) w2 hsz (HG.out.below HB2.out HG.out.pos) (HO.out.below HB2.out) (n := 20) (q := (⟨3, 0, 0⟩, .node 6 0 [] [.node 1 1 [] [], .node 1 n [] []])) (by rw [envOf_eq, sigOf_eq, hls]; exact hqq)
      rw [show PP.out PP.zeroT ((⟨3, 0, 0⟩ : PP.St), Tree.node 6 0 [] [.node 1 1 [] [], .node 1 n [] []]) = (.node 6 0 [] [.node 1 1 [] [], .node 1 n [] []], 0, 0) from rfl] at hex
      have u1 : decide ((2147483647 : Int) < (n : Int)) = false := by simp; omega
      have u2 : decide (2147483647 < n) = false := by simp; omega
      have HEX := Lib.hid hex
      clear hex hqq hne hls hsz hS
      go_wp2_with fail
      refine HEX.out.mono ?_
      rintro e w3 ⟨vx, rfl, hN, hb3⟩
      have hB3 := HB2.out.trans (hb3.mono HB2.out.size)
      obtain ⟨g9, o9, c9, k1, num1, nm1, A1, c1, ks1, k2, num2, nm2, A2, c2, ks2, rfl, hgl, _, _, h2, _, ⟨_, y1, _, _⟩, _, _⟩ := NodeV.two hN
      injection h2 with a1 a2 a3 a4
      subst a1 a2 a3 a4
      have u3 : ((n : Int) != (n : Int)) = false := by simp
      clear hN
      have HB3 := Lib.hid hB3
      have hmm : ((n % 1003 : Nat) : Int) = (n : Int) % 1003 := by omega
      have hml : n % 1003 < 1003 := Nat.mod_lt _ (by omega)
      have hdc := fun W => decimal_any (n % 1003) W (by omega)
      have hans := PP.numOk_ans (PP.num_k1 (n % 1003) hml)
      rw [hmm] at hdc
      have HDC := Lib.hid hdc
      have hm0 : (0 : Int) ≤ (n : Int) % 1003 := by omega
      clear hdc hb3 hB3 HEX HB2
      go_wp2_with fail
      refine (HDC.out _).mono ?_
      rintro e w4 ⟨rfl, hb4⟩
      have hB4 : Below w.heap.size w w4 := (HB3.out.alloc HB3.out.size _).trans (hb4.mono (by have := HB3.out.size; simp; omega))
      generalize hD : (⟨(PP.dec (n % 1003)).toArray⟩ : ByteArray) = D
      have hDl : D.data.toList = PP.dec (n % 1003) := by rw [← hD]
      have hDs : D.size ≤ 20 := by rw [Lib.size_eq, hDl]; exact PP.decF_len 20 _
      have hPl : ((⟨#[116, 97, 115, 107, 32, 116, 32, 112, 101, 114, 105, 111, 100, 32]⟩ : ByteArray) ++ D ++ ⟨#[32, 123, 125]⟩).data.toList = [116, 97, 115, 107, 32, 116, 32, 112, 101, 114, 105, 111, 100, 32] ++ PP.dec (n % 1003) ++ [32, 123, 125] := by rw [ByteArray.data_append, ByteArray.data_append]; simp [hDl]
      have hPs : ((⟨#[116, 97, 115, 107, 32, 116, 32, 112, 101, 114, 105, 111, 100, 32]⟩ : ByteArray) ++ D ++ ⟨#[32, 123, 125]⟩).size ≤ maxLen := by rw [Lib.size_eq, hPl]; have := PP.decF_len 20 (n % 1003); simp [PP.dec]; unfold maxLen; omega
      clear hD hDl hb4 HDC
      by_cases hin : 1 ≤ n % 1003 ∧ n % 1003 ≤ 1000
      · rw [if_pos hin] at hans
        have hP := program_ans _ w4 hPs (HG.out.below hB4 HG.out.pos) (HO.out.below hB4) hPl hans (fun _ => rfl)
        have v1 : decide ((1 : Int) ≤ (n : Int) % 1003) = true := by simp; omega
        have v2 : decide ((n : Int) % 1003 ≤ 1000) = true := by simp; omega
        have HP := Lib.hid hP
        have HB4 := Lib.hid hB4
        clear hP hans hPl hPs hB4 hin
        go_wp2_with fail
        refine HP.out.mono ?_
        rintro e w5 ⟨A5, k5, c5, A5', k5', c5', rfl, hb5⟩
        have HB5 := Lib.hid (HB4.out.trans (hb5.mono HB4.out.size))
        clear hb5 HP
        go_wp2_with fail
        go_ret
        exact ⟨rfl, HB5.out.alloc HB5.out.size _⟩
      · rw [if_neg hin] at hans
        have hP := program_ans _ w4 hPs (HG.out.below hB4 HG.out.pos) (HO.out.below hB4) hPl hans (fun h => by cases h)
        have HP := Lib.hid hP
        have HB4 := Lib.hid hB4
        clear hP hans hPl hPs hB4
        rcases (show n % 1003 < 1 ∨ (1 ≤ n % 1003 ∧ 1000 < n % 1003) by omega) with hl1 | ⟨hl1, hl2⟩
        · have v1 : decide ((1 : Int) ≤ (n : Int) % 1003) = false := by simp; omega
          clear hin hl1
          go_wp2_with fail
          refine HP.out.mono ?_
          rintro e w5 ⟨A5, k5, c5, A5', k5', c5', rfl, hb5⟩
          have HB5 := Lib.hid (HB4.out.trans (hb5.mono HB4.out.size))
          clear hb5 HP
          go_wp2_with fail
          go_ret
          exact ⟨rfl, HB5.out.alloc HB5.out.size _⟩
        · have v1 : decide ((1 : Int) ≤ (n : Int) % 1003) = true := by simp; omega
          have v2 : decide ((n : Int) % 1003 ≤ 1000) = false := by simp; omega
          clear hin hl1 hl2
          go_wp2_with fail
          refine HP.out.mono ?_
          rintro e w5 ⟨A5, k5, c5, A5', k5', c5', rfl, hb5⟩
          have HB5 := Lib.hid (HB4.out.trans (hb5.mono HB4.out.size))
          clear hb5 HP
          go_wp2_with fail
          go_ret
          exact ⟨rfl, HB5.out.alloc HB5.out.size _⟩
theorem numbers_2_big (n z q : Nat) (w : World) (hg : SignsIs w) (hO : OpsIs w) (hn : n ≤ 4294967295) (hz : z ≤ 255) (hq : q ≤ 255) (hm : q % 5 = 2) (hbig : 2147483647 < n) :
    Calls Tryd.prog 7 #[.int .u32 (n : Int), .int .u8 (z : Int), .int .u8 (q : Int)] w fun e w' => e = .returned (.bool true) ∧ Below w.heap.size w w' := by
  have HG := Lib.hid hg
  have HO := Lib.hid hO
  have HA := Lib.hid (awake13_any w hg hO)
  have hnot : ∀ (x : Bool) (w : World), (Op.unary .not (.bool x)).run Tryd.prog w = .ok (.bool (!x)) w := fun _ _ => rfl
  have am : (q : Int) % 5 = 2 := by omega
  clear hg hO hm
  go_enter Tryd.func7, Tryd.ntmps7
  go_wp2_with fail
  refine HA.out.mono ?_
  rintro e w1 ⟨rfl, hb1⟩
  have HB1 := Lib.hid hb1
  clear hb1 HA
  go_wp2_with fail
  refine (decimal_any n w1 hn).mono ?_
  rintro e w2 ⟨rfl, hb2⟩
  have HB2 := Lib.hid (HB1.out.trans (hb2.mono HB1.out.size))
  clear hb2 HB1
  generalize hS0 : (⟨(PP.dec n).toArray⟩ : ByteArray) = S0
  have HS0 := Lib.hid (show S0.data.toList = PP.dec n by rw [← hS0])
  clear hS0
  go_wp2_with fail
  have hz30 : (z : Int) % 30 = ((z % 30 : Nat) : Int) := by omega
  have hz3 : z % 30 < 30 := Nat.mod_lt _ (by omega)
  rw [hz30]
  clear hz30
  generalize z % 30 = m at *
  go_loop [7, 26] (fun s i => ZRel n m s i) (fun _ i => m - (intOf i).toNat)
  case atStart => exact ⟨0, S0, by omega, rfl, rfl, by rw [HS0.out]; rfl⟩
  case round =>
    obtain ⟨k, S, hk, rfl, rfl, hS⟩ := hrel
    have hlen : S.size ≤ 50 := by rw [Lib.size_eq, hS]; have := zeros_len k n; omega
    by_cases hlt : k < m
    · have HS' := Lib.hid (show ((⟨#[48]⟩ : ByteArray) ++ S).data.toList = PP.zeros (k + 1) n by rw [ByteArray.data_append]; simp [hS, PP.zeros, List.replicate_succ])
      clear hS
      go_wp2_with fail
      go_round
      case rel => exact ⟨k + 1, _, by omega, by go_num, rfl, HS'.out⟩
      case measure => simp [intOf]; omega
    · obtain rfl : k = m := by omega
      have hne := PP.num_expr (PP.zeros_ne k n) (PP.zeros_digit k n) (by have := zeros_len k n; omega) n (PP.zeros_val k n (by omega))
      have hls : ((⟨#[49, 32, 43, 32]⟩ : ByteArray) ++ S).data.toList = [49, 32, 43, 32] ++ PP.zeros k n := by rw [ByteArray.data_append]; simp [hS]
      have hsz : ((⟨#[49, 32, 43, 32]⟩ : ByteArray) ++ S).size ≤ maxLen := by rw [Lib.size_eq, hls, List.length_append]; have := zeros_len k n; simp; unfold maxLen; omega
      obtain ⟨t, hqq⟩ := hne.2 (by omega)
      have hex := expr_at ((⟨#[49, 32, 43, 32]⟩ : ByteArray) ++ S) w2 hsz (HG.out.below HB2.out HG.out.pos) (HO.out.below HB2.out) (n := 20) (q := (⟨2, 4, 2⟩, t)) (by rw [envOf_eq, sigOf_eq, hls]; exact hqq)
      rw [show PP.out PP.zeroT ((⟨2, 4, 2⟩ : PP.St), t) = (PP.zeroT, 4, 2) from rfl] at hex
      have u1 : decide ((2147483647 : Int) < (n : Int)) = true := by simp; omega
      have u2 : decide (2147483647 < n) = true := by simp; omega
      have HEX := Lib.hid hex
      clear hex hqq hne hls hsz hS
      go_wp2_with fail
      refine HEX.out.mono ?_
      rintro e w3 ⟨vx, rfl, hN, hb3⟩
      have hB3 := HB2.out.trans (hb3.mono HB2.out.size)
      obtain ⟨k9, num9, nm9, A9, c9, kids9, rfl, ht9, _⟩ := hN
      injection ht9 with f1 f2 f3 f4
      subst f1 f2 f3 f4
      have HB3 := Lib.hid hB3
      have hmm : ((n % 1003 : Nat) : Int) = (n : Int) % 1003 := by omega
      have hml : n % 1003 < 1003 := Nat.mod_lt _ (by omega)
      have hdc := fun W => decimal_any (n % 1003) W (by omega)
      have hans := PP.numOk_ans (PP.num_k2 (n % 1003) hml)
      rw [hmm] at hdc
      have HDC := Lib.hid hdc
      have hm0 : (0 : Int) ≤ (n : Int) % 1003 := by omega
      clear hdc hb3 hB3 HEX HB2
      go_wp2_with fail
      refine (HDC.out _).mono ?_
      rintro e w4 ⟨rfl, hb4⟩
      have hB4 : Below w.heap.size w w4 := (HB3.out.alloc HB3.out.size _).trans (hb4.mono (by have := HB3.out.size; simp; omega))
      generalize hD : (⟨(PP.dec (n % 1003)).toArray⟩ : ByteArray) = D
      have hDl : D.data.toList = PP.dec (n % 1003) := by rw [← hD]
      have hDs : D.size ≤ 20 := by rw [Lib.size_eq, hDl]; exact PP.decF_len 20 _
      have hPl : ((⟨#[116, 97, 115, 107, 32, 116, 32, 112, 101, 114, 105, 111, 100, 32, 49, 32, 123, 32, 102, 111, 114, 32, 105, 32, 60, 32]⟩ : ByteArray) ++ D ++ ⟨#[32, 123, 125, 32, 125]⟩).data.toList = [116, 97, 115, 107, 32, 116, 32, 112, 101, 114, 105, 111, 100, 32, 49, 32, 123, 32, 102, 111, 114, 32, 105, 32, 60, 32] ++ PP.dec (n % 1003) ++ [32, 123, 125, 32, 125] := by rw [ByteArray.data_append, ByteArray.data_append]; simp [hDl]
      have hPs : ((⟨#[116, 97, 115, 107, 32, 116, 32, 112, 101, 114, 105, 111, 100, 32, 49, 32, 123, 32, 102, 111, 114, 32, 105, 32, 60, 32]⟩ : ByteArray) ++ D ++ ⟨#[32, 123, 125, 32, 125]⟩).size ≤ maxLen := by rw [Lib.size_eq, hPl]; have := PP.decF_len 20 (n % 1003); simp [PP.dec]; unfold maxLen; omega
      clear hD hDl hb4 HDC
      by_cases hin : 1 ≤ n % 1003 ∧ n % 1003 ≤ 1000
      · rw [if_pos hin] at hans
        have hP := program_ans _ w4 hPs (HG.out.below hB4 HG.out.pos) (HO.out.below hB4) hPl hans (fun _ => rfl)
        have v1 : decide ((1 : Int) ≤ (n : Int) % 1003) = true := by simp; omega
        have v2 : decide ((n : Int) % 1003 ≤ 1000) = true := by simp; omega
        have HP := Lib.hid hP
        have HB4 := Lib.hid hB4
        clear hP hans hPl hPs hB4 hin
        go_wp2_with fail
        refine HP.out.mono ?_
        rintro e w5 ⟨A5, k5, c5, A5', k5', c5', rfl, hb5⟩
        have HB5 := Lib.hid (HB4.out.trans (hb5.mono HB4.out.size))
        clear hb5 HP
        go_wp2_with fail
        go_ret
        exact ⟨rfl, HB5.out.alloc HB5.out.size _⟩
      · rw [if_neg hin] at hans
        have hP := program_ans _ w4 hPs (HG.out.below hB4 HG.out.pos) (HO.out.below hB4) hPl hans (fun h => by cases h)
        have HP := Lib.hid hP
        have HB4 := Lib.hid hB4
        clear hP hans hPl hPs hB4
        rcases (show n % 1003 < 1 ∨ (1 ≤ n % 1003 ∧ 1000 < n % 1003) by omega) with hl1 | ⟨hl1, hl2⟩
        · have v1 : decide ((1 : Int) ≤ (n : Int) % 1003) = false := by simp; omega
          clear hin hl1
          go_wp2_with fail
          refine HP.out.mono ?_
          rintro e w5 ⟨A5, k5, c5, A5', k5', c5', rfl, hb5⟩
          have HB5 := Lib.hid (HB4.out.trans (hb5.mono HB4.out.size))
          clear hb5 HP
          go_wp2_with fail
          go_ret
          exact ⟨rfl, HB5.out.alloc HB5.out.size _⟩
        · have v1 : decide ((1 : Int) ≤ (n : Int) % 1003) = true := by simp; omega
          have v2 : decide ((n : Int) % 1003 ≤ 1000) = false := by simp; omega
          clear hin hl1 hl2
          go_wp2_with fail
          refine HP.out.mono ?_
          rintro e w5 ⟨A5, k5, c5, A5', k5', c5', rfl, hb5⟩
          have HB5 := Lib.hid (HB4.out.trans (hb5.mono HB4.out.size))
          clear hb5 HP
          go_wp2_with fail
          go_ret
          exact ⟨rfl, HB5.out.alloc HB5.out.size _⟩
theorem numbers_2_small (n z q : Nat) (w : World) (hg : SignsIs w) (hO : OpsIs w) (hn : n ≤ 4294967295) (hz : z ≤ 255) (hq : q ≤ 255) (hm : q % 5 = 2) (hbig : n ≤ 2147483647) :
    Calls Tryd.prog 7 #[.int .u32 (n : Int), .int .u8 (z : Int), .int .u8 (q : Int)] w fun e w' => e = .returned (.bool true) ∧ Below w.heap.size w w' := by
  have HG := Lib.hid hg
  have HO := Lib.hid hO
  have HA := Lib.hid (awake13_any w hg hO)
  have hnot : ∀ (x : Bool) (w : World), (Op.unary .not (.bool x)).run Tryd.prog w = .ok (.bool (!x)) w := fun _ _ => rfl
  have am : (q : Int) % 5 = 2 := by omega
  clear hg hO hm
  go_enter Tryd.func7, Tryd.ntmps7
  go_wp2_with fail
  refine HA.out.mono ?_
  rintro e w1 ⟨rfl, hb1⟩
  have HB1 := Lib.hid hb1
  clear hb1 HA
  go_wp2_with fail
  refine (decimal_any n w1 hn).mono ?_
  rintro e w2 ⟨rfl, hb2⟩
  have HB2 := Lib.hid (HB1.out.trans (hb2.mono HB1.out.size))
  clear hb2 HB1
  generalize hS0 : (⟨(PP.dec n).toArray⟩ : ByteArray) = S0
  have HS0 := Lib.hid (show S0.data.toList = PP.dec n by rw [← hS0])
  clear hS0
  go_wp2_with fail
  have hz30 : (z : Int) % 30 = ((z % 30 : Nat) : Int) := by omega
  have hz3 : z % 30 < 30 := Nat.mod_lt _ (by omega)
  rw [hz30]
  clear hz30
  generalize z % 30 = m at *
  go_loop [7, 26] (fun s i => ZRel n m s i) (fun _ i => m - (intOf i).toNat)
  case atStart => exact ⟨0, S0, by omega, rfl, rfl, by rw [HS0.out]; rfl⟩
  case round =>
    obtain ⟨k, S, hk, rfl, rfl, hS⟩ := hrel
    have hlen : S.size ≤ 50 := by rw [Lib.size_eq, hS]; have := zeros_len k n; omega
    by_cases hlt : k < m
    · have HS' := Lib.hid (show ((⟨#[48]⟩ : ByteArray) ++ S).data.toList = PP.zeros (k + 1) n by rw [ByteArray.data_append]; simp [hS, PP.zeros, List.replicate_succ])
      clear hS
      go_wp2_with fail
      go_round
      case rel => exact ⟨k + 1, _, by omega, by go_num, rfl, HS'.out⟩
      case measure => simp [intOf]; omega
    · obtain rfl : k = m := by omega
      have hne := PP.num_expr (PP.zeros_ne k n) (PP.zeros_digit k n) (by have := zeros_len k n; omega) n (PP.zeros_val k n (by omega))
      have hls : ((⟨#[49, 32, 43, 32]⟩ : ByteArray) ++ S).data.toList = [49, 32, 43, 32] ++ PP.zeros k n := by rw [ByteArray.data_append]; simp [hS]
      have hsz : ((⟨#[49, 32, 43, 32]⟩ : ByteArray) ++ S).size ≤ maxLen := by rw [Lib.size_eq, hls, List.length_append]; have := zeros_len k n; simp; unfold maxLen; omega
      have hqq := hne.1 (by omega) (by omega)
      have hex := expr_at ((⟨#[49, 32, 43, 32]⟩ : ByteArray) ++ S) w2 hsz (HG.out.below HB2.out HG.out.pos) (HO.out.below HB2.out) (n := 20) (q := (⟨3, 0, 0⟩, .node 6 0 [] [.node 1 1 [] [], .node 1 n [] []])) (by rw [envOf_eq, sigOf_eq, hls]; exact hqq)
      rw [show PP.out PP.zeroT ((⟨3, 0, 0⟩ : PP.St), Tree.node 6 0 [] [.node 1 1 [] [], .node 1 n [] []]) = (.node 6 0 [] [.node 1 1 [] [], .node 1 n [] []], 0, 0) from rfl] at hex
      have u1 : decide ((2147483647 : Int) < (n : Int)) = false := by simp; omega
      have u2 : decide (2147483647 < n) = false := by simp; omega
      have HEX := Lib.hid hex
      clear hex hqq hne hls hsz hS
      go_wp2_with fail
      refine HEX.out.mono ?_
      rintro e w3 ⟨vx, rfl, hN, hb3⟩
      have hB3 := HB2.out.trans (hb3.mono HB2.out.size)
      obtain ⟨g9, o9, c9, k1, num1, nm1, A1, c1, ks1, k2, num2, nm2, A2, c2, ks2, rfl, hgl, _, _, h2, _, ⟨_, y1, _, _⟩, _, _⟩ := NodeV.two hN
      injection h2 with a1 a2 a3 a4
      subst a1 a2 a3 a4
      have u3 : ((n : Int) != (n : Int)) = false := by simp
      clear hN
      have HB3 := Lib.hid hB3
      have hmm : ((n % 1003 : Nat) : Int) = (n : Int) % 1003 := by omega
      have hml : n % 1003 < 1003 := Nat.mod_lt _ (by omega)
      have hdc := fun W => decimal_any (n % 1003) W (by omega)
      have hans := PP.numOk_ans (PP.num_k2 (n % 1003) hml)
      rw [hmm] at hdc
      have HDC := Lib.hid hdc
      have hm0 : (0 : Int) ≤ (n : Int) % 1003 := by omega
      clear hdc hb3 hB3 HEX HB2
      go_wp2_with fail
      refine (HDC.out _).mono ?_
      rintro e w4 ⟨rfl, hb4⟩
      have hB4 : Below w.heap.size w w4 := (HB3.out.alloc HB3.out.size _).trans (hb4.mono (by have := HB3.out.size; simp; omega))
      generalize hD : (⟨(PP.dec (n % 1003)).toArray⟩ : ByteArray) = D
      have hDl : D.data.toList = PP.dec (n % 1003) := by rw [← hD]
      have hDs : D.size ≤ 20 := by rw [Lib.size_eq, hDl]; exact PP.decF_len 20 _
      have hPl : ((⟨#[116, 97, 115, 107, 32, 116, 32, 112, 101, 114, 105, 111, 100, 32, 49, 32, 123, 32, 102, 111, 114, 32, 105, 32, 60, 32]⟩ : ByteArray) ++ D ++ ⟨#[32, 123, 125, 32, 125]⟩).data.toList = [116, 97, 115, 107, 32, 116, 32, 112, 101, 114, 105, 111, 100, 32, 49, 32, 123, 32, 102, 111, 114, 32, 105, 32, 60, 32] ++ PP.dec (n % 1003) ++ [32, 123, 125, 32, 125] := by rw [ByteArray.data_append, ByteArray.data_append]; simp [hDl]
      have hPs : ((⟨#[116, 97, 115, 107, 32, 116, 32, 112, 101, 114, 105, 111, 100, 32, 49, 32, 123, 32, 102, 111, 114, 32, 105, 32, 60, 32]⟩ : ByteArray) ++ D ++ ⟨#[32, 123, 125, 32, 125]⟩).size ≤ maxLen := by rw [Lib.size_eq, hPl]; have := PP.decF_len 20 (n % 1003); simp [PP.dec]; unfold maxLen; omega
      clear hD hDl hb4 HDC
      by_cases hin : 1 ≤ n % 1003 ∧ n % 1003 ≤ 1000
      · rw [if_pos hin] at hans
        have hP := program_ans _ w4 hPs (HG.out.below hB4 HG.out.pos) (HO.out.below hB4) hPl hans (fun _ => rfl)
        have v1 : decide ((1 : Int) ≤ (n : Int) % 1003) = true := by simp; omega
        have v2 : decide ((n : Int) % 1003 ≤ 1000) = true := by simp; omega
        have HP := Lib.hid hP
        have HB4 := Lib.hid hB4
        clear hP hans hPl hPs hB4 hin
        go_wp2_with fail
        refine HP.out.mono ?_
        rintro e w5 ⟨A5, k5, c5, A5', k5', c5', rfl, hb5⟩
        have HB5 := Lib.hid (HB4.out.trans (hb5.mono HB4.out.size))
        clear hb5 HP
        go_wp2_with fail
        go_ret
        exact ⟨rfl, HB5.out.alloc HB5.out.size _⟩
      · rw [if_neg hin] at hans
        have hP := program_ans _ w4 hPs (HG.out.below hB4 HG.out.pos) (HO.out.below hB4) hPl hans (fun h => by cases h)
        have HP := Lib.hid hP
        have HB4 := Lib.hid hB4
        clear hP hans hPl hPs hB4
        rcases (show n % 1003 < 1 ∨ (1 ≤ n % 1003 ∧ 1000 < n % 1003) by omega) with hl1 | ⟨hl1, hl2⟩
        · have v1 : decide ((1 : Int) ≤ (n : Int) % 1003) = false := by simp; omega
          clear hin hl1
          go_wp2_with fail
          refine HP.out.mono ?_
          rintro e w5 ⟨A5, k5, c5, A5', k5', c5', rfl, hb5⟩
          have HB5 := Lib.hid (HB4.out.trans (hb5.mono HB4.out.size))
          clear hb5 HP
          go_wp2_with fail
          go_ret
          exact ⟨rfl, HB5.out.alloc HB5.out.size _⟩
        · have v1 : decide ((1 : Int) ≤ (n : Int) % 1003) = true := by simp; omega
          have v2 : decide ((n : Int) % 1003 ≤ 1000) = false := by simp; omega
          clear hin hl1 hl2
          go_wp2_with fail
          refine HP.out.mono ?_
          rintro e w5 ⟨A5, k5, c5, A5', k5', c5', rfl, hb5⟩
          have HB5 := Lib.hid (HB4.out.trans (hb5.mono HB4.out.size))
          clear hb5 HP
          go_wp2_with fail
          go_ret
          exact ⟨rfl, HB5.out.alloc HB5.out.size _⟩
theorem numbers_3_big (n z q : Nat) (w : World) (hg : SignsIs w) (hO : OpsIs w) (hn : n ≤ 4294967295) (hz : z ≤ 255) (hq : q ≤ 255) (hm : q % 5 = 3) (hbig : 2147483647 < n) :
    Calls Tryd.prog 7 #[.int .u32 (n : Int), .int .u8 (z : Int), .int .u8 (q : Int)] w fun e w' => e = .returned (.bool true) ∧ Below w.heap.size w w' := by
  have HG := Lib.hid hg
  have HO := Lib.hid hO
  have HA := Lib.hid (awake13_any w hg hO)
  have hnot : ∀ (x : Bool) (w : World), (Op.unary .not (.bool x)).run Tryd.prog w = .ok (.bool (!x)) w := fun _ _ => rfl
  have am : (q : Int) % 5 = 3 := by omega
  clear hg hO hm
  go_enter Tryd.func7, Tryd.ntmps7
  go_wp2_with fail
  refine HA.out.mono ?_
  rintro e w1 ⟨rfl, hb1⟩
  have HB1 := Lib.hid hb1
  clear hb1 HA
  go_wp2_with fail
  refine (decimal_any n w1 hn).mono ?_
  rintro e w2 ⟨rfl, hb2⟩
  have HB2 := Lib.hid (HB1.out.trans (hb2.mono HB1.out.size))
  clear hb2 HB1
  generalize hS0 : (⟨(PP.dec n).toArray⟩ : ByteArray) = S0
  have HS0 := Lib.hid (show S0.data.toList = PP.dec n by rw [← hS0])
  clear hS0
  go_wp2_with fail
  have hz30 : (z : Int) % 30 = ((z % 30 : Nat) : Int) := by omega
  have hz3 : z % 30 < 30 := Nat.mod_lt _ (by omega)
  rw [hz30]
  clear hz30
  generalize z % 30 = m at *
  go_loop [7, 26] (fun s i => ZRel n m s i) (fun _ i => m - (intOf i).toNat)
  case atStart => exact ⟨0, S0, by omega, rfl, rfl, by rw [HS0.out]; rfl⟩
  case round =>
    obtain ⟨k, S, hk, rfl, rfl, hS⟩ := hrel
    have hlen : S.size ≤ 50 := by rw [Lib.size_eq, hS]; have := zeros_len k n; omega
    by_cases hlt : k < m
    · have HS' := Lib.hid (show ((⟨#[48]⟩ : ByteArray) ++ S).data.toList = PP.zeros (k + 1) n by rw [ByteArray.data_append]; simp [hS, PP.zeros, List.replicate_succ])
      clear hS
      go_wp2_with fail
      go_round
      case rel => exact ⟨k + 1, _, by omega, by go_num, rfl, HS'.out⟩
      case measure => simp [intOf]; omega
    · obtain rfl : k = m := by omega
      have hne := PP.num_expr (PP.zeros_ne k n) (PP.zeros_digit k n) (by have := zeros_len k n; omega) n (PP.zeros_val k n (by omega))
      have hls : ((⟨#[49, 32, 43, 32]⟩ : ByteArray) ++ S).data.toList = [49, 32, 43, 32] ++ PP.zeros k n := by rw [ByteArray.data_append]; simp [hS]
      have hsz : ((⟨#[49, 32, 43, 32]⟩ : ByteArray) ++ S).size ≤ maxLen := by rw [Lib.size_eq, hls, List.length_append]; have := zeros_len k n; simp; unfold maxLen; omega
      obtain ⟨t, hqq⟩ := hne.2 (by omega)
      have hex := expr_at ((⟨#[49, 32, 43, 32]⟩ : ByteArray) ++ S) w2 hsz (HG.out.below HB2.out HG.out.pos) (HO.out.below HB2.out) (n := 20) (q := (⟨2, 4, 2⟩, t)) (by rw [envOf_eq, sigOf_eq, hls]; exact hqq)
      rw [show PP.out PP.zeroT ((⟨2, 4, 2⟩ : PP.St), t) = (PP.zeroT, 4, 2) from rfl] at hex
      have u1 : decide ((2147483647 : Int) < (n : Int)) = true := by simp; omega
      have u2 : decide (2147483647 < n) = true := by simp; omega
      have HEX := Lib.hid hex
      clear hex hqq hne hls hsz hS
      go_wp2_with fail
      refine HEX.out.mono ?_
      rintro e w3 ⟨vx, rfl, hN, hb3⟩
      have hB3 := HB2.out.trans (hb3.mono HB2.out.size)
      obtain ⟨k9, num9, nm9, A9, c9, kids9, rfl, ht9, _⟩ := hN
      injection ht9 with f1 f2 f3 f4
      subst f1 f2 f3 f4
      have HB3 := Lib.hid hB3
      have hmm : ((n % 1003 : Nat) : Int) = (n : Int) % 1003 := by omega
      have hml : n % 1003 < 1003 := Nat.mod_lt _ (by omega)
      have hdc := fun W => decimal_any (n % 1003) W (by omega)
      have hans := PP.numOk_ans (PP.num_k3 (n % 1003) hml)
      rw [hmm] at hdc
      have HDC := Lib.hid hdc
      have hm0 : (0 : Int) ≤ (n : Int) % 1003 := by omega
      clear hdc hb3 hB3 HEX HB2
      go_wp2_with fail
      refine (HDC.out _).mono ?_
      rintro e w4 ⟨rfl, hb4⟩
      have hB4 : Below w.heap.size w w4 := (HB3.out.alloc HB3.out.size _).trans (hb4.mono (by have := HB3.out.size; simp; omega))
      generalize hD : (⟨(PP.dec (n % 1003)).toArray⟩ : ByteArray) = D
      have hDl : D.data.toList = PP.dec (n % 1003) := by rw [← hD]
      have hDs : D.size ≤ 20 := by rw [Lib.size_eq, hDl]; exact PP.decF_len 20 _
      have hPl : ((⟨#[116, 97, 115, 107, 32, 116, 32, 112, 101, 114, 105, 111, 100, 32, 49, 32, 123, 32, 119, 104, 105, 108, 101, 32, 48, 32, 98, 111, 117, 110, 100, 32]⟩ : ByteArray) ++ D ++ ⟨#[32, 123, 125, 32, 125]⟩).data.toList = [116, 97, 115, 107, 32, 116, 32, 112, 101, 114, 105, 111, 100, 32, 49, 32, 123, 32, 119, 104, 105, 108, 101, 32, 48, 32, 98, 111, 117, 110, 100, 32] ++ PP.dec (n % 1003) ++ [32, 123, 125, 32, 125] := by rw [ByteArray.data_append, ByteArray.data_append]; simp [hDl]
      have hPs : ((⟨#[116, 97, 115, 107, 32, 116, 32, 112, 101, 114, 105, 111, 100, 32, 49, 32, 123, 32, 119, 104, 105, 108, 101, 32, 48, 32, 98, 111, 117, 110, 100, 32]⟩ : ByteArray) ++ D ++ ⟨#[32, 123, 125, 32, 125]⟩).size ≤ maxLen := by rw [Lib.size_eq, hPl]; have := PP.decF_len 20 (n % 1003); simp [PP.dec]; unfold maxLen; omega
      clear hD hDl hb4 HDC
      by_cases hin : 1 ≤ n % 1003 ∧ n % 1003 ≤ 1000
      · rw [if_pos hin] at hans
        have hP := program_ans _ w4 hPs (HG.out.below hB4 HG.out.pos) (HO.out.below hB4) hPl hans (fun _ => rfl)
        have v1 : decide ((1 : Int) ≤ (n : Int) % 1003) = true := by simp; omega
        have v2 : decide ((n : Int) % 1003 ≤ 1000) = true := by simp; omega
        have HP := Lib.hid hP
        have HB4 := Lib.hid hB4
        clear hP hans hPl hPs hB4 hin
        go_wp2_with fail
        refine HP.out.mono ?_
        rintro e w5 ⟨A5, k5, c5, A5', k5', c5', rfl, hb5⟩
        have HB5 := Lib.hid (HB4.out.trans (hb5.mono HB4.out.size))
        clear hb5 HP
        go_wp2_with fail
        go_ret
        exact ⟨rfl, HB5.out.alloc HB5.out.size _⟩
      · rw [if_neg hin] at hans
        have hP := program_ans _ w4 hPs (HG.out.below hB4 HG.out.pos) (HO.out.below hB4) hPl hans (fun h => by cases h)
        have HP := Lib.hid hP
        have HB4 := Lib.hid hB4
        clear hP hans hPl hPs hB4
        rcases (show n % 1003 < 1 ∨ (1 ≤ n % 1003 ∧ 1000 < n % 1003) by omega) with hl1 | ⟨hl1, hl2⟩
        · have v1 : decide ((1 : Int) ≤ (n : Int) % 1003) = false := by simp; omega
          clear hin hl1
          go_wp2_with fail
          refine HP.out.mono ?_
          rintro e w5 ⟨A5, k5, c5, A5', k5', c5', rfl, hb5⟩
          have HB5 := Lib.hid (HB4.out.trans (hb5.mono HB4.out.size))
          clear hb5 HP
          go_wp2_with fail
          go_ret
          exact ⟨rfl, HB5.out.alloc HB5.out.size _⟩
        · have v1 : decide ((1 : Int) ≤ (n : Int) % 1003) = true := by simp; omega
          have v2 : decide ((n : Int) % 1003 ≤ 1000) = false := by simp; omega
          clear hin hl1 hl2
          go_wp2_with fail
          refine HP.out.mono ?_
          rintro e w5 ⟨A5, k5, c5, A5', k5', c5', rfl, hb5⟩
          have HB5 := Lib.hid (HB4.out.trans (hb5.mono HB4.out.size))
          clear hb5 HP
          go_wp2_with fail
          go_ret
          exact ⟨rfl, HB5.out.alloc HB5.out.size _⟩
theorem numbers_3_small (n z q : Nat) (w : World) (hg : SignsIs w) (hO : OpsIs w) (hn : n ≤ 4294967295) (hz : z ≤ 255) (hq : q ≤ 255) (hm : q % 5 = 3) (hbig : n ≤ 2147483647) :
    Calls Tryd.prog 7 #[.int .u32 (n : Int), .int .u8 (z : Int), .int .u8 (q : Int)] w fun e w' => e = .returned (.bool true) ∧ Below w.heap.size w w' := by
  have HG := Lib.hid hg
  have HO := Lib.hid hO
  have HA := Lib.hid (awake13_any w hg hO)
  have hnot : ∀ (x : Bool) (w : World), (Op.unary .not (.bool x)).run Tryd.prog w = .ok (.bool (!x)) w := fun _ _ => rfl
  have am : (q : Int) % 5 = 3 := by omega
  clear hg hO hm
  go_enter Tryd.func7, Tryd.ntmps7
  go_wp2_with fail
  refine HA.out.mono ?_
  rintro e w1 ⟨rfl, hb1⟩
  have HB1 := Lib.hid hb1
  clear hb1 HA
  go_wp2_with fail
  refine (decimal_any n w1 hn).mono ?_
  rintro e w2 ⟨rfl, hb2⟩
  have HB2 := Lib.hid (HB1.out.trans (hb2.mono HB1.out.size))
  clear hb2 HB1
  generalize hS0 : (⟨(PP.dec n).toArray⟩ : ByteArray) = S0
  have HS0 := Lib.hid (show S0.data.toList = PP.dec n by rw [← hS0])
  clear hS0
  go_wp2_with fail
  have hz30 : (z : Int) % 30 = ((z % 30 : Nat) : Int) := by omega
  have hz3 : z % 30 < 30 := Nat.mod_lt _ (by omega)
  rw [hz30]
  clear hz30
  generalize z % 30 = m at *
  go_loop [7, 26] (fun s i => ZRel n m s i) (fun _ i => m - (intOf i).toNat)
  case atStart => exact ⟨0, S0, by omega, rfl, rfl, by rw [HS0.out]; rfl⟩
  case round =>
    obtain ⟨k, S, hk, rfl, rfl, hS⟩ := hrel
    have hlen : S.size ≤ 50 := by rw [Lib.size_eq, hS]; have := zeros_len k n; omega
    by_cases hlt : k < m
    · have HS' := Lib.hid (show ((⟨#[48]⟩ : ByteArray) ++ S).data.toList = PP.zeros (k + 1) n by rw [ByteArray.data_append]; simp [hS, PP.zeros, List.replicate_succ])
      clear hS
      go_wp2_with fail
      go_round
      case rel => exact ⟨k + 1, _, by omega, by go_num, rfl, HS'.out⟩
      case measure => simp [intOf]; omega
    · obtain rfl : k = m := by omega
      have hne := PP.num_expr (PP.zeros_ne k n) (PP.zeros_digit k n) (by have := zeros_len k n; omega) n (PP.zeros_val k n (by omega))
      have hls : ((⟨#[49, 32, 43, 32]⟩ : ByteArray) ++ S).data.toList = [49, 32, 43, 32] ++ PP.zeros k n := by rw [ByteArray.data_append]; simp [hS]
      have hsz : ((⟨#[49, 32, 43, 32]⟩ : ByteArray) ++ S).size ≤ maxLen := by rw [Lib.size_eq, hls, List.length_append]; have := zeros_len k n; simp; unfold maxLen; omega
      have hqq := hne.1 (by omega) (by omega)
      have hex := expr_at ((⟨#[49, 32, 43, 32]⟩ : ByteArray) ++ S) w2 hsz (HG.out.below HB2.out HG.out.pos) (HO.out.below HB2.out) (n := 20) (q := (⟨3, 0, 0⟩, .node 6 0 [] [.node 1 1 [] [], .node 1 n [] []])) (by rw [envOf_eq, sigOf_eq, hls]; exact hqq)
      rw [show PP.out PP.zeroT ((⟨3, 0, 0⟩ : PP.St), Tree.node 6 0 [] [.node 1 1 [] [], .node 1 n [] []]) = (.node 6 0 [] [.node 1 1 [] [], .node 1 n [] []], 0, 0) from rfl] at hex
      have u1 : decide ((2147483647 : Int) < (n : Int)) = false := by simp; omega
      have u2 : decide (2147483647 < n) = false := by simp; omega
      have HEX := Lib.hid hex
      clear hex hqq hne hls hsz hS
      go_wp2_with fail
      refine HEX.out.mono ?_
      rintro e w3 ⟨vx, rfl, hN, hb3⟩
      have hB3 := HB2.out.trans (hb3.mono HB2.out.size)
      obtain ⟨g9, o9, c9, k1, num1, nm1, A1, c1, ks1, k2, num2, nm2, A2, c2, ks2, rfl, hgl, _, _, h2, _, ⟨_, y1, _, _⟩, _, _⟩ := NodeV.two hN
      injection h2 with a1 a2 a3 a4
      subst a1 a2 a3 a4
      have u3 : ((n : Int) != (n : Int)) = false := by simp
      clear hN
      have HB3 := Lib.hid hB3
      have hmm : ((n % 1003 : Nat) : Int) = (n : Int) % 1003 := by omega
      have hml : n % 1003 < 1003 := Nat.mod_lt _ (by omega)
      have hdc := fun W => decimal_any (n % 1003) W (by omega)
      have hans := PP.numOk_ans (PP.num_k3 (n % 1003) hml)
      rw [hmm] at hdc
      have HDC := Lib.hid hdc
      have hm0 : (0 : Int) ≤ (n : Int) % 1003 := by omega
      clear hdc hb3 hB3 HEX HB2
      go_wp2_with fail
      refine (HDC.out _).mono ?_
      rintro e w4 ⟨rfl, hb4⟩
      have hB4 : Below w.heap.size w w4 := (HB3.out.alloc HB3.out.size _).trans (hb4.mono (by have := HB3.out.size; simp; omega))
      generalize hD : (⟨(PP.dec (n % 1003)).toArray⟩ : ByteArray) = D
      have hDl : D.data.toList = PP.dec (n % 1003) := by rw [← hD]
      have hDs : D.size ≤ 20 := by rw [Lib.size_eq, hDl]; exact PP.decF_len 20 _
      have hPl : ((⟨#[116, 97, 115, 107, 32, 116, 32, 112, 101, 114, 105, 111, 100, 32, 49, 32, 123, 32, 119, 104, 105, 108, 101, 32, 48, 32, 98, 111, 117, 110, 100, 32]⟩ : ByteArray) ++ D ++ ⟨#[32, 123, 125, 32, 125]⟩).data.toList = [116, 97, 115, 107, 32, 116, 32, 112, 101, 114, 105, 111, 100, 32, 49, 32, 123, 32, 119, 104, 105, 108, 101, 32, 48, 32, 98, 111, 117, 110, 100, 32] ++ PP.dec (n % 1003) ++ [32, 123, 125, 32, 125] := by rw [ByteArray.data_append, ByteArray.data_append]; simp [hDl]
      have hPs : ((⟨#[116, 97, 115, 107, 32, 116, 32, 112, 101, 114, 105, 111, 100, 32, 49, 32, 123, 32, 119, 104, 105, 108, 101, 32, 48, 32, 98, 111, 117, 110, 100, 32]⟩ : ByteArray) ++ D ++ ⟨#[32, 123, 125, 32, 125]⟩).size ≤ maxLen := by rw [Lib.size_eq, hPl]; have := PP.decF_len 20 (n % 1003); simp [PP.dec]; unfold maxLen; omega
      clear hD hDl hb4 HDC
      by_cases hin : 1 ≤ n % 1003 ∧ n % 1003 ≤ 1000
      · rw [if_pos hin] at hans
        have hP := program_ans _ w4 hPs (HG.out.below hB4 HG.out.pos) (HO.out.below hB4) hPl hans (fun _ => rfl)
        have v1 : decide ((1 : Int) ≤ (n : Int) % 1003) = true := by simp; omega
        have v2 : decide ((n : Int) % 1003 ≤ 1000) = true := by simp; omega
        have HP := Lib.hid hP
        have HB4 := Lib.hid hB4
        clear hP hans hPl hPs hB4 hin
        go_wp2_with fail
        refine HP.out.mono ?_
        rintro e w5 ⟨A5, k5, c5, A5', k5', c5', rfl, hb5⟩
        have HB5 := Lib.hid (HB4.out.trans (hb5.mono HB4.out.size))
        clear hb5 HP
        go_wp2_with fail
        go_ret
        exact ⟨rfl, HB5.out.alloc HB5.out.size _⟩
      · rw [if_neg hin] at hans
        have hP := program_ans _ w4 hPs (HG.out.below hB4 HG.out.pos) (HO.out.below hB4) hPl hans (fun h => by cases h)
        have HP := Lib.hid hP
        have HB4 := Lib.hid hB4
        clear hP hans hPl hPs hB4
        rcases (show n % 1003 < 1 ∨ (1 ≤ n % 1003 ∧ 1000 < n % 1003) by omega) with hl1 | ⟨hl1, hl2⟩
        · have v1 : decide ((1 : Int) ≤ (n : Int) % 1003) = false := by simp; omega
          clear hin hl1
          go_wp2_with fail
          refine HP.out.mono ?_
          rintro e w5 ⟨A5, k5, c5, A5', k5', c5', rfl, hb5⟩
          have HB5 := Lib.hid (HB4.out.trans (hb5.mono HB4.out.size))
          clear hb5 HP
          go_wp2_with fail
          go_ret
          exact ⟨rfl, HB5.out.alloc HB5.out.size _⟩
        · have v1 : decide ((1 : Int) ≤ (n : Int) % 1003) = true := by simp; omega
          have v2 : decide ((n : Int) % 1003 ≤ 1000) = false := by simp; omega
          clear hin hl1 hl2
          go_wp2_with fail
          refine HP.out.mono ?_
          rintro e w5 ⟨A5, k5, c5, A5', k5', c5', rfl, hb5⟩
          have HB5 := Lib.hid (HB4.out.trans (hb5.mono HB4.out.size))
          clear hb5 HP
          go_wp2_with fail
          go_ret
          exact ⟨rfl, HB5.out.alloc HB5.out.size _⟩
theorem numbers_4_big (n z q : Nat) (w : World) (hg : SignsIs w) (hO : OpsIs w) (hn : n ≤ 4294967295) (hz : z ≤ 255) (hq : q ≤ 255) (hm : q % 5 = 4) (hbig : 2147483647 < n) :
    Calls Tryd.prog 7 #[.int .u32 (n : Int), .int .u8 (z : Int), .int .u8 (q : Int)] w fun e w' => e = .returned (.bool true) ∧ Below w.heap.size w w' := by
  have HG := Lib.hid hg
  have HO := Lib.hid hO
  have HA := Lib.hid (awake13_any w hg hO)
  have hnot : ∀ (x : Bool) (w : World), (Op.unary .not (.bool x)).run Tryd.prog w = .ok (.bool (!x)) w := fun _ _ => rfl
  have am : (q : Int) % 5 = 4 := by omega
  clear hg hO hm
  go_enter Tryd.func7, Tryd.ntmps7
  go_wp2_with fail
  refine HA.out.mono ?_
  rintro e w1 ⟨rfl, hb1⟩
  have HB1 := Lib.hid hb1
  clear hb1 HA
  go_wp2_with fail
  refine (decimal_any n w1 hn).mono ?_
  rintro e w2 ⟨rfl, hb2⟩
  have HB2 := Lib.hid (HB1.out.trans (hb2.mono HB1.out.size))
  clear hb2 HB1
  generalize hS0 : (⟨(PP.dec n).toArray⟩ : ByteArray) = S0
  have HS0 := Lib.hid (show S0.data.toList = PP.dec n by rw [← hS0])
  clear hS0
  go_wp2_with fail
  have hz30 : (z : Int) % 30 = ((z % 30 : Nat) : Int) := by omega
  have hz3 : z % 30 < 30 := Nat.mod_lt _ (by omega)
  rw [hz30]
  clear hz30
  generalize z % 30 = m at *
  go_loop [7, 26] (fun s i => ZRel n m s i) (fun _ i => m - (intOf i).toNat)
  case atStart => exact ⟨0, S0, by omega, rfl, rfl, by rw [HS0.out]; rfl⟩
  case round =>
    obtain ⟨k, S, hk, rfl, rfl, hS⟩ := hrel
    have hlen : S.size ≤ 50 := by rw [Lib.size_eq, hS]; have := zeros_len k n; omega
    by_cases hlt : k < m
    · have HS' := Lib.hid (show ((⟨#[48]⟩ : ByteArray) ++ S).data.toList = PP.zeros (k + 1) n by rw [ByteArray.data_append]; simp [hS, PP.zeros, List.replicate_succ])
      clear hS
      go_wp2_with fail
      go_round
      case rel => exact ⟨k + 1, _, by omega, by go_num, rfl, HS'.out⟩
      case measure => simp [intOf]; omega
    · obtain rfl : k = m := by omega
      have hne := PP.num_expr (PP.zeros_ne k n) (PP.zeros_digit k n) (by have := zeros_len k n; omega) n (PP.zeros_val k n (by omega))
      have hls : ((⟨#[49, 32, 43, 32]⟩ : ByteArray) ++ S).data.toList = [49, 32, 43, 32] ++ PP.zeros k n := by rw [ByteArray.data_append]; simp [hS]
      have hsz : ((⟨#[49, 32, 43, 32]⟩ : ByteArray) ++ S).size ≤ maxLen := by rw [Lib.size_eq, hls, List.length_append]; have := zeros_len k n; simp; unfold maxLen; omega
      obtain ⟨t, hqq⟩ := hne.2 (by omega)
      have hex := expr_at ((⟨#[49, 32, 43, 32]⟩ : ByteArray) ++ S) w2 hsz (HG.out.below HB2.out HG.out.pos) (HO.out.below HB2.out) (n := 20) (q := (⟨2, 4, 2⟩, t)) (by rw [envOf_eq, sigOf_eq, hls]; exact hqq)
      rw [show PP.out PP.zeroT ((⟨2, 4, 2⟩ : PP.St), t) = (PP.zeroT, 4, 2) from rfl] at hex
      have u1 : decide ((2147483647 : Int) < (n : Int)) = true := by simp; omega
      have u2 : decide (2147483647 < n) = true := by simp; omega
      have HEX := Lib.hid hex
      clear hex hqq hne hls hsz hS
      go_wp2_with fail
      refine HEX.out.mono ?_
      rintro e w3 ⟨vx, rfl, hN, hb3⟩
      have hB3 := HB2.out.trans (hb3.mono HB2.out.size)
      obtain ⟨k9, num9, nm9, A9, c9, kids9, rfl, ht9, _⟩ := hN
      injection ht9 with f1 f2 f3 f4
      subst f1 f2 f3 f4
      have HB3 := Lib.hid hB3
      have hmm : ((n % 10 : Nat) : Int) = (n : Int) % 10 := by omega
      have hml : n % 10 < 10 := Nat.mod_lt _ (by omega)
      have hdc := fun W => decimal_any (n % 10) W (by omega)
      have hans := PP.numOk_ans (PP.num_k4 (n % 10) hml)
      rw [hmm] at hdc
      have HDC := Lib.hid hdc
      have hm0 : (0 : Int) ≤ (n : Int) % 10 := by omega
      clear hdc hb3 hB3 HEX HB2
      go_wp2_with fail
      refine (HDC.out _).mono ?_
      rintro e w4 ⟨rfl, hb4⟩
      have hB4 : Below w.heap.size w w4 := (HB3.out.alloc HB3.out.size _).trans (hb4.mono (by have := HB3.out.size; simp; omega))
      generalize hD : (⟨(PP.dec (n % 10)).toArray⟩ : ByteArray) = D
      have hDl : D.data.toList = PP.dec (n % 10) := by rw [← hD]
      have hDs : D.size ≤ 20 := by rw [Lib.size_eq, hDl]; exact PP.decF_len 20 _
      have hPl : ((⟨#[116, 97, 115, 107, 32, 116, 32, 112, 101, 114, 105, 111, 100, 32, 49, 32, 123, 32, 111, 117, 116, 32, 49, 44, 32]⟩ : ByteArray) ++ D ++ ⟨#[59, 32, 125]⟩).data.toList = [116, 97, 115, 107, 32, 116, 32, 112, 101, 114, 105, 111, 100, 32, 49, 32, 123, 32, 111, 117, 116, 32, 49, 44, 32] ++ PP.dec (n % 10) ++ [59, 32, 125] := by rw [ByteArray.data_append, ByteArray.data_append]; simp [hDl]
      have hPs : ((⟨#[116, 97, 115, 107, 32, 116, 32, 112, 101, 114, 105, 111, 100, 32, 49, 32, 123, 32, 111, 117, 116, 32, 49, 44, 32]⟩ : ByteArray) ++ D ++ ⟨#[59, 32, 125]⟩).size ≤ maxLen := by rw [Lib.size_eq, hPl]; have := PP.decF_len 20 (n % 10); simp [PP.dec]; unfold maxLen; omega
      clear hD hDl hb4 HDC
      by_cases hin : 0 ≤ n % 10 ∧ n % 10 ≤ 7
      · rw [if_pos hin] at hans
        have hP := program_ans _ w4 hPs (HG.out.below hB4 HG.out.pos) (HO.out.below hB4) hPl hans (fun _ => rfl)
        have v1 : decide ((0 : Int) ≤ (n : Int) % 10) = true := by simp; omega
        have v2 : decide ((n : Int) % 10 ≤ 7) = true := by simp; omega
        have HP := Lib.hid hP
        have HB4 := Lib.hid hB4
        clear hP hans hPl hPs hB4 hin
        go_wp2_with fail
        refine HP.out.mono ?_
        rintro e w5 ⟨A5, k5, c5, A5', k5', c5', rfl, hb5⟩
        have HB5 := Lib.hid (HB4.out.trans (hb5.mono HB4.out.size))
        clear hb5 HP
        go_wp2_with fail
        go_ret
        exact ⟨rfl, HB5.out.alloc HB5.out.size _⟩
      · rw [if_neg hin] at hans
        have hP := program_ans _ w4 hPs (HG.out.below hB4 HG.out.pos) (HO.out.below hB4) hPl hans (fun h => by cases h)
        have HP := Lib.hid hP
        have HB4 := Lib.hid hB4
        clear hP hans hPl hPs hB4
        rcases (show n % 10 < 0 ∨ (0 ≤ n % 10 ∧ 7 < n % 10) by omega) with hl1 | ⟨hl1, hl2⟩
        · omega
        · have v1 : decide ((0 : Int) ≤ (n : Int) % 10) = true := by simp; omega
          have v2 : decide ((n : Int) % 10 ≤ 7) = false := by simp; omega
          clear hin hl1 hl2
          go_wp2_with fail
          refine HP.out.mono ?_
          rintro e w5 ⟨A5, k5, c5, A5', k5', c5', rfl, hb5⟩
          have HB5 := Lib.hid (HB4.out.trans (hb5.mono HB4.out.size))
          clear hb5 HP
          go_wp2_with fail
          go_ret
          exact ⟨rfl, HB5.out.alloc HB5.out.size _⟩
theorem numbers_4_small (n z q : Nat) (w : World) (hg : SignsIs w) (hO : OpsIs w) (hn : n ≤ 4294967295) (hz : z ≤ 255) (hq : q ≤ 255) (hm : q % 5 = 4) (hbig : n ≤ 2147483647) :
    Calls Tryd.prog 7 #[.int .u32 (n : Int), .int .u8 (z : Int), .int .u8 (q : Int)] w fun e w' => e = .returned (.bool true) ∧ Below w.heap.size w w' := by
  have HG := Lib.hid hg
  have HO := Lib.hid hO
  have HA := Lib.hid (awake13_any w hg hO)
  have hnot : ∀ (x : Bool) (w : World), (Op.unary .not (.bool x)).run Tryd.prog w = .ok (.bool (!x)) w := fun _ _ => rfl
  have am : (q : Int) % 5 = 4 := by omega
  clear hg hO hm
  go_enter Tryd.func7, Tryd.ntmps7
  go_wp2_with fail
  refine HA.out.mono ?_
  rintro e w1 ⟨rfl, hb1⟩
  have HB1 := Lib.hid hb1
  clear hb1 HA
  go_wp2_with fail
  refine (decimal_any n w1 hn).mono ?_
  rintro e w2 ⟨rfl, hb2⟩
  have HB2 := Lib.hid (HB1.out.trans (hb2.mono HB1.out.size))
  clear hb2 HB1
  generalize hS0 : (⟨(PP.dec n).toArray⟩ : ByteArray) = S0
  have HS0 := Lib.hid (show S0.data.toList = PP.dec n by rw [← hS0])
  clear hS0
  go_wp2_with fail
  have hz30 : (z : Int) % 30 = ((z % 30 : Nat) : Int) := by omega
  have hz3 : z % 30 < 30 := Nat.mod_lt _ (by omega)
  rw [hz30]
  clear hz30
  generalize z % 30 = m at *
  go_loop [7, 26] (fun s i => ZRel n m s i) (fun _ i => m - (intOf i).toNat)
  case atStart => exact ⟨0, S0, by omega, rfl, rfl, by rw [HS0.out]; rfl⟩
  case round =>
    obtain ⟨k, S, hk, rfl, rfl, hS⟩ := hrel
    have hlen : S.size ≤ 50 := by rw [Lib.size_eq, hS]; have := zeros_len k n; omega
    by_cases hlt : k < m
    · have HS' := Lib.hid (show ((⟨#[48]⟩ : ByteArray) ++ S).data.toList = PP.zeros (k + 1) n by rw [ByteArray.data_append]; simp [hS, PP.zeros, List.replicate_succ])
      clear hS
      go_wp2_with fail
      go_round
      case rel => exact ⟨k + 1, _, by omega, by go_num, rfl, HS'.out⟩
      case measure => simp [intOf]; omega
    · obtain rfl : k = m := by omega
      have hne := PP.num_expr (PP.zeros_ne k n) (PP.zeros_digit k n) (by have := zeros_len k n; omega) n (PP.zeros_val k n (by omega))
      have hls : ((⟨#[49, 32, 43, 32]⟩ : ByteArray) ++ S).data.toList = [49, 32, 43, 32] ++ PP.zeros k n := by rw [ByteArray.data_append]; simp [hS]
      have hsz : ((⟨#[49, 32, 43, 32]⟩ : ByteArray) ++ S).size ≤ maxLen := by rw [Lib.size_eq, hls, List.length_append]; have := zeros_len k n; simp; unfold maxLen; omega
      have hqq := hne.1 (by omega) (by omega)
      have hex := expr_at ((⟨#[49, 32, 43, 32]⟩ : ByteArray) ++ S) w2 hsz (HG.out.below HB2.out HG.out.pos) (HO.out.below HB2.out) (n := 20) (q := (⟨3, 0, 0⟩, .node 6 0 [] [.node 1 1 [] [], .node 1 n [] []])) (by rw [envOf_eq, sigOf_eq, hls]; exact hqq)
      rw [show PP.out PP.zeroT ((⟨3, 0, 0⟩ : PP.St), Tree.node 6 0 [] [.node 1 1 [] [], .node 1 n [] []]) = (.node 6 0 [] [.node 1 1 [] [], .node 1 n [] []], 0, 0) from rfl] at hex
      have u1 : decide ((2147483647 : Int) < (n : Int)) = false := by simp; omega
      have u2 : decide (2147483647 < n) = false := by simp; omega
      have HEX := Lib.hid hex
      clear hex hqq hne hls hsz hS
      go_wp2_with fail
      refine HEX.out.mono ?_
      rintro e w3 ⟨vx, rfl, hN, hb3⟩
      have hB3 := HB2.out.trans (hb3.mono HB2.out.size)
      obtain ⟨g9, o9, c9, k1, num1, nm1, A1, c1, ks1, k2, num2, nm2, A2, c2, ks2, rfl, hgl, _, _, h2, _, ⟨_, y1, _, _⟩, _, _⟩ := NodeV.two hN
      injection h2 with a1 a2 a3 a4
      subst a1 a2 a3 a4
      have u3 : ((n : Int) != (n : Int)) = false := by simp
      clear hN
      have HB3 := Lib.hid hB3
      have hmm : ((n % 10 : Nat) : Int) = (n : Int) % 10 := by omega
      have hml : n % 10 < 10 := Nat.mod_lt _ (by omega)
      have hdc := fun W => decimal_any (n % 10) W (by omega)
      have hans := PP.numOk_ans (PP.num_k4 (n % 10) hml)
      rw [hmm] at hdc
      have HDC := Lib.hid hdc
      have hm0 : (0 : Int) ≤ (n : Int) % 10 := by omega
      clear hdc hb3 hB3 HEX HB2
      go_wp2_with fail
      refine (HDC.out _).mono ?_
      rintro e w4 ⟨rfl, hb4⟩
      have hB4 : Below w.heap.size w w4 := (HB3.out.alloc HB3.out.size _).trans (hb4.mono (by have := HB3.out.size; simp; omega))
      generalize hD : (⟨(PP.dec (n % 10)).toArray⟩ : ByteArray) = D
      have hDl : D.data.toList = PP.dec (n % 10) := by rw [← hD]
      have hDs : D.size ≤ 20 := by rw [Lib.size_eq, hDl]; exact PP.decF_len 20 _
      have hPl : ((⟨#[116, 97, 115, 107, 32, 116, 32, 112, 101, 114, 105, 111, 100, 32, 49, 32, 123, 32, 111, 117, 116, 32, 49, 44, 32]⟩ : ByteArray) ++ D ++ ⟨#[59, 32, 125]⟩).data.toList = [116, 97, 115, 107, 32, 116, 32, 112, 101, 114, 105, 111, 100, 32, 49, 32, 123, 32, 111, 117, 116, 32, 49, 44, 32] ++ PP.dec (n % 10) ++ [59, 32, 125] := by rw [ByteArray.data_append, ByteArray.data_append]; simp [hDl]
      have hPs : ((⟨#[116, 97, 115, 107, 32, 116, 32, 112, 101, 114, 105, 111, 100, 32, 49, 32, 123, 32, 111, 117, 116, 32, 49, 44, 32]⟩ : ByteArray) ++ D ++ ⟨#[59, 32, 125]⟩).size ≤ maxLen := by rw [Lib.size_eq, hPl]; have := PP.decF_len 20 (n % 10); simp [PP.dec]; unfold maxLen; omega
      clear hD hDl hb4 HDC
      by_cases hin : 0 ≤ n % 10 ∧ n % 10 ≤ 7
      · rw [if_pos hin] at hans
        have hP := program_ans _ w4 hPs (HG.out.below hB4 HG.out.pos) (HO.out.below hB4) hPl hans (fun _ => rfl)
        have v1 : decide ((0 : Int) ≤ (n : Int) % 10) = true := by simp; omega
        have v2 : decide ((n : Int) % 10 ≤ 7) = true := by simp; omega
        have HP := Lib.hid hP
        have HB4 := Lib.hid hB4
        clear hP hans hPl hPs hB4 hin
        go_wp2_with fail
        refine HP.out.mono ?_
        rintro e w5 ⟨A5, k5, c5, A5', k5', c5', rfl, hb5⟩
        have HB5 := Lib.hid (HB4.out.trans (hb5.mono HB4.out.size))
        clear hb5 HP
        go_wp2_with fail
        go_ret
        exact ⟨rfl, HB5.out.alloc HB5.out.size _⟩
      · rw [if_neg hin] at hans
        have hP := program_ans _ w4 hPs (HG.out.below hB4 HG.out.pos) (HO.out.below hB4) hPl hans (fun h => by cases h)
        have HP := Lib.hid hP
        have HB4 := Lib.hid hB4
        clear hP hans hPl hPs hB4
        rcases (show n % 10 < 0 ∨ (0 ≤ n % 10 ∧ 7 < n % 10) by omega) with hl1 | ⟨hl1, hl2⟩
        · omega
        · have v1 : decide ((0 : Int) ≤ (n : Int) % 10) = true := by simp; omega
          have v2 : decide ((n : Int) % 10 ≤ 7) = false := by simp; omega
          clear hin hl1 hl2
          go_wp2_with fail
          refine HP.out.mono ?_
          rintro e w5 ⟨A5, k5, c5, A5', k5', c5', rfl, hb5⟩
          have HB5 := Lib.hid (HB4.out.trans (hb5.mono HB4.out.size))
          clear hb5 HP
          go_wp2_with fail
          go_ret
          exact ⟨rfl, HB5.out.alloc HB5.out.size _⟩
theorem numbers_walk (n z q : Nat) (w : World) (hg : SignsIs w) (hO : OpsIs w) (hn : n ≤ 4294967295) (hz : z ≤ 255) (hq : q ≤ 255) :
    Calls Tryd.prog 7 #[.int .u32 (n : Int), .int .u8 (z : Int), .int .u8 (q : Int)] w fun e w' => e = .returned (.bool true) ∧ Below w.heap.size w w' := by
  rcases Nat.lt_or_ge 2147483647 n with hb | hb
  · rcases (show q % 5 = 0 ∨ q % 5 = 1 ∨ q % 5 = 2 ∨ q % 5 = 3 ∨ q % 5 = 4 by omega) with h | h | h | h | h
    · exact numbers_0_big n z q w hg hO hn hz hq h hb
    · exact numbers_1_big n z q w hg hO hn hz hq h hb
    · exact numbers_2_big n z q w hg hO hn hz hq h hb
    · exact numbers_3_big n z q w hg hO hn hz hq h hb
    · exact numbers_4_big n z q w hg hO hn hz hq h hb
  · rcases (show q % 5 = 0 ∨ q % 5 = 1 ∨ q % 5 = 2 ∨ q % 5 = 3 ∨ q % 5 = 4 by omega) with h | h | h | h | h
    · exact numbers_0_small n z q w hg hO hn hz hq h hb
    · exact numbers_1_small n z q w hg hO hn hz hq h hb
    · exact numbers_2_small n z q w hg hO hn hz hq h hb
    · exact numbers_3_small n z q w hg hO hn hz hq h hb
    · exact numbers_4_small n z q w hg hO hn hz hq h hb
end
end Go.Proofs.YtaaaicpjlaeiiaaDoor
