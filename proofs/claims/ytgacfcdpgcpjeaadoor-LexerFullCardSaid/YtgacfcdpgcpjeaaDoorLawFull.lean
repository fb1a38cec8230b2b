/- LexerFull: a text of MaxText bytes is read; a longer one is refused. -/
import Derived.Test.YtgacfcdpgcpjeaaDoorLexD
import Derived.Test.YtgacfcdpgcpjeaaDoorPlainLex3
import Derived.Test.YtgacfcdpgcpjeaaDoorShelf
import Derived.Deep.RegionWith
namespace Go.Proofs.YtgacfcdpgcpjeaaDoor
open Go.RowKit

theorem spaces_one (l : List UInt8) (h : ∀ c ∈ l, PL.isSpace c = true) (h1 : 1 ≤ l.length) (h2 : l.length ≤ 65536) : PL.lex l = ([⟨4, l, 0⟩], 0, 0) := by
  match l, h1 with
  | b :: t, _ =>
    have hb := h b (by simp)
    have ht : t.takeWhile PL.isSpace = t := by
      have := PL.takeWhile_all PL.isSpace t [] (fun c hc => h c (by simp [hc]))
      simpa using this
    have h1 : PL.isLetter b = false := by
      cases hc : PL.isLetter b with
      | false => rfl
      | true =>
        simp [PL.isLetter, UInt8.le_iff_toNat_le] at hc
        simp [PL.isSpace, ← UInt8.toNat_inj] at hb
        omega
    have h3 : PL.isDigit b = false := by
      cases hc : PL.isDigit b with
      | false => rfl
      | true =>
        simp [PL.isDigit, UInt8.le_iff_toNat_le] at hc
        simp [PL.isSpace, ← UInt8.toNat_inj] at hb
        omega
    have hf : PL.first (b :: t) = (4, t.length + 1) := by
      simp only [PL.first, h1, h3, hb, PL.count, List.tail_cons, ht]
      simp; omega
    refine PL.lex_of_ok h2 ?_
    have := PL.first_whole (b :: t) (by rw [hf]; simp) (by rw [hf]; simp) 0
    rw [this, hf]
theorem repeat_mem (l : List UInt8) : ∀ (n : Nat) (c : UInt8), c ∈ Lib.repeatL l n → c ∈ l
  | 0, c, h => by simp [Lib.repeatL] at h
  | n + 1, c, h => by
    simp only [Lib.repeatL, List.mem_append] at h
    rcases h with h | h
    · exact h
    · exact repeat_mem l n c h
theorem repeat_len (l : List UInt8) (n : Nat) : (Lib.repeatL l n).length = n * l.length := Lib.repeatL_length l n
theorem size_add3 (a b c : ByteArray) : (a ++ b ++ c).data.toList.length = a.size + b.size + c.size := by
  rw [← Lib.size_eq]; simp

theorem add_run (a b : ByteArray) (W : World) (h : a.size + b.size ≤ 9223372036854775807) : (binOp .add 9 (.string a) (.string b)).run Tryd.prog W = .ok (.string (a ++ b)) W := by
  have h2 := run_string_add_sum (P := Tryd.prog) W a b h
  simpa [binOp] using h2

section
set_option maxHeartbeats 800000
set_option maxRecDepth 100000
theorem full_walk (c k : Nat) (w : World) (hg : SignsIs w) (_hc : c ≤ 255) (hk : k ≤ 255) :
    Calls Tryd.prog 11 #[.int .u8 (c : Int), .int .u8 (k : Int)] w fun e w' => e = .returned (.bool true) ∧ Below w.heap.size w w' := by
  obtain ⟨S, hS⟩ : ∃ S : ByteArray, S = ⟨(Lib.repeatL [32] 65536).toArray⟩ := ⟨_, rfl⟩
  obtain ⟨Q, hQ⟩ : ∃ Q : ByteArray, Q = ⟨(Lib.repeatL [63] k).toArray⟩ := ⟨_, rfl⟩
  have hSl : S.data.toList = Lib.repeatL [32] 65536 := by rw [hS]
  have hSs : S.size = 65536 := by rw [Lib.size_eq, hSl, repeat_len]; rfl
  have hQs : Q.size = k := by rw [Lib.size_eq, hQ]; simp only []; rw [repeat_len]; simp
  have hlex : PL.lex S.data.toList = ([⟨4, S.data.toList, 0⟩], 0, 0) := spaces_one _ (fun c hc => by
    rw [hSl] at hc
    have := repeat_mem _ _ _ hc
    have : c = 32 := by simpa using this
    rw [this]; decide) (by rw [← Lib.size_eq]; omega) (by rw [← Lib.size_eq]; omega)
  have hrep : ∀ W, Calls Tryd.prog 23 #[.string ⟨#[32]⟩, .int .i64 65536] W fun e w' => e = .returned (.string S) ∧ Below W.heap.size W w' := fun W => by
    have := Tryd.strings_Repeat ⟨#[32]⟩ 65536 W (by omega) (by decide)
    rw [hS]
    exact this
  have hrep2 : ∀ W, Calls Tryd.prog 23 #[.string ⟨#[63]⟩, .int .i64 (k : Int)] W fun e w' => e = .returned (.string Q) ∧ Below W.heap.size W w' := fun W => by
    have := Tryd.strings_Repeat ⟨#[63]⟩ k W (by omega) (by show 1 * k ≤ _; omega)
    rw [hQ]
    exact this
  have HREP := Lib.hid hrep
  have HREP2 := Lib.hid hrep2
  have HLEX := Lib.hid hlex
  have HSS := Lib.hid hSs
  have HQS := Lib.hid hQs
  clear hrep hrep2 hlex hSs hQs hSl hS hQ
  go_enter Tryd.func11, Tryd.ntmps11
  go_wp2_with fail
  refine (awake_any _ hg).mono ?_
  rintro e w1 ⟨rfl, hb1⟩
  go_wp2_with fail
  refine (HREP.out _).mono ?_
  rintro e w2 ⟨rfl, hb2⟩
  have hB2 := hb1.trans (hb2.mono hb1.size)
  go_wp2_with fail
  have h3 := lex_any S w2 (hg.below hB2 hg.pos) (by rw [HSS.out]; unfold maxLen; omega)
  unfold LexEnd at h3
  rw [HLEX.out] at h3
  refine h3.mono ?_
  clear h3
  rintro e w3 ⟨v3, rfl, ho3, hb3⟩
  have hB3 := hB2.trans (hb3.mono hB2.size)
  obtain ⟨A3, c3, rfl⟩ := own_form ho3
  clear ho3 hb3 hb2 hb1
  have hlex2 : ∀ W, Below w.heap.size w W → Calls Tryd.prog 13 #[.string ((strOfNums [(c : Int)]) ++ S ++ Q)] W fun e w' => ∃ A' c', e = .returned (.tuple #[.slice A' 0 c', .int .i64 0, .int .i64 5]) ∧ Below W.heap.size W w' := fun W hW => by
    have hl : PL.lex ((strOfNums [(c : Int)]) ++ S ++ Q).data.toList = ([], 0, 5) := PL.lex_full (by
      rw [size_add3, HSS.out, strOfNums_size]; simp; omega)
    have h := lex_any ((strOfNums [(c : Int)]) ++ S ++ Q) W (hg.below hW hg.pos) (by
      rw [Lib.size_eq, size_add3, HSS.out, HQS.out, strOfNums_size]; unfold maxLen; simp; omega)
    unfold LexEnd at h
    rw [hl] at h
    refine h.mono ?_
    rintro e w' ⟨v, rfl, ho, hb⟩
    obtain ⟨A', c', rfl⟩ := own_form ho
    exact ⟨A', c', rfl, hb⟩
  have hcv : ∀ (W : World) (b : Nat), W.cell? ⟨b, 0, none⟩ = some (.int .u8 (c : Int)) → (convert 43 9 (.slice (some ⟨b, 0, none⟩) 1 1)).run Tryd.prog W = .ok (.string (strOfNums [(c : Int)])) W := by
    intro W b h
    refine run_convert_bytes_arg W 43 5 Tryd.underlying43 Tryd.underlying5 b 0 1 1 [(c : Int)] rfl ?_ 9 Tryd.underlying9
    intro i hi
    obtain rfl : i = 0 := by omega
    simpa using h
  have HLEX2 := Lib.hid hlex2
  clear hlex2 HREP HLEX
  have hss1 := HSS.out
  have hqs1 := HQS.out
  have z1 : S.size ≤ 65536 := by omega
  have z2 : Q.size ≤ 255 := by omega
  have z3 : (strOfNums [(c : Int)]).size ≤ 1 := by rw [strOfNums_size]; simp
  clear hss1 hqs1 HSS HQS
  generalize strOfNums [(c : Int)] = C at *
  have hadd1 : ∀ W : World, (binOp .add 9 (.string C) (.string S)).run Tryd.prog W = .ok (.string (C ++ S)) W := fun W => add_run C S W (by omega)
  have hadd2 : ∀ W : World, (binOp .add 9 (.string (C ++ S)) (.string Q)).run Tryd.prog W = .ok (.string (C ++ S ++ Q)) W := fun W => add_run (C ++ S) Q W (by rw [ByteArray.size_append]; omega)
  go_wp2_with fail
  have hwk : IntKind.i64.wrap (k : Int) = (k : Int) := IntWalk.i64_in _ (by omega)
  go_region_with (first | (go_at_call 23; refine (HREP2.out _).mono ?_; rintro e w5 ⟨rfl, hb5⟩; have hk5 := hb5.cell (p := ⟨w3.heap.size, 0, none⟩)) | (go_at_call 13; refine (HLEX2.out _ ?_).mono ?_; (first | (with_reducible exact below_step (below_new hB3 _).drew hb5) | (with_reducible exact below_new (below_step hB3.drew hb5) _)); rintro e w6 ⟨A6, c6, rfl, hb6⟩))
  all_goals
    go_wp2_with fail
    go_ret
    refine ⟨rfl, ?_⟩
    first | (with_reducible exact below_step (below_step (below_new hB3 _).drew hb5) hb6) | (with_reducible exact below_step (below_new (below_step hB3.drew hb5) _) hb6)
end
end Go.Proofs.YtgacfcdpgcpjeaaDoor
