/- The contracts of the reader's want, name, number, and of binary. -/
import Derived.Test.YtglaecalbamnkaaGreatDoorRdA
import Derived.Test.YtglaecalbamnkaaGreatDoorPlainRdr
import Derived.Test.YtglaecalbamnkaaGreatDoorRefQ
namespace Go.Proofs.YtglaecalbamnkaaGreatDoor
open Go.RowKit Go.Maps
section
set_option maxHeartbeats 1000000
set_option maxRecDepth 100000
variable {b : Nat} {Y : RLoc} {E : PP.Env} {σ : PP.St} {w0 : World}
theorem seen_text (E : PP.Env) (σ : PP.St) {s : List UInt8} (hs : s ≠ []) : ((seen E σ).2.1 == s) = PP.sees E σ s := by
  unfold seen PP.sees
  cases PP.more E σ with
  | true => rfl
  | false =>
    cases s with
    | nil => exact absurd rfl hs
    | cons => rfl
theorem rwant_any (s : ByteArray) (hs : s.data.toList ≠ []) (w : World) (h : RS w b Y E σ) :
    Calls Tryz.prog 22 #[.pointer (some ⟨b, 0, none⟩), .string s] w fun r w' => r = .returned (.tuple #[]) ∧ RS w' b Y E (PP.require E σ s.data.toList) ∧ Fr b w w' := by
  have hsee := rsee_any w h
  unfold seenV at hsee
  have hst := seen_text E σ hs
  have hfd := field_tok
  have HH := Lib.hid h
  have HSEE := Lib.hid hsee
  unfold PP.require
  generalize (seen E σ).2.1 = tx at *
  generalize ((seen E σ).1 : Int) = kd at *
  generalize ((seen E σ).2.2 : Int) = ps at *
  clear hsee h
  cases hc : PP.sees E σ s.data.toList with
  | true =>
    rw [hc] at hst
    have e1 : (tx == s.toList) = true := by rw [Lib.toList_data]; exact hst
    have hmo : PP.more E σ = true := by
      unfold PP.sees at hc
      simp only [Bool.and_eq_true] at hc
      exact hc.1
    have HMO := Lib.hid hmo
    clear hc hst hmo
    go_enter Tryz.func22, Tryz.ntmps22
    go_wp2_with fail
    refine HSEE.out.mono ?_
    rintro e w1 ⟨rfl, hb1⟩
    have HS := Lib.hid (rskip_any w1 (HH.out.below hb1) HMO.out)
    have HB := Lib.hid hb1
    clear hb1
    go_wp2_with fail
    refine HS.out.mono ?_
    rintro e w2 ⟨rfl, hp, hf⟩
    go_wp2_with fail
    go_end0
    exact ⟨rfl, hp, (Fr.of_below HB.out).trans hf⟩
  | false =>
    rw [hc] at hst
    have e1 : (tx == s.toList) = false := by rw [Lib.toList_data]; exact hst
    clear hc hst
    go_enter Tryz.func22, Tryz.ntmps22
    go_wp2_with fail
    refine HSEE.out.mono ?_
    rintro e w1 ⟨rfl, hb1⟩
    have HS := Lib.hid (rwrong_any w1 (HH.out.below hb1))
    have HB := Lib.hid hb1
    clear hb1
    go_wp2_with fail
    refine HS.out.mono ?_
    rintro e w2 ⟨rfl, hp, hf⟩
    go_wp2_with fail
    try simp only [Exit.inBlock, Exit.then]
    refine bodyPost_ret (results_none rfl _ _ _) rfl ?_
    exact ⟨rfl, hp, (Fr.of_below HB.out).trans hf⟩
theorem seen_name (E : PP.Env) (σ : PP.St) : PL.refName (seen E σ).2.1 = (PP.more E σ && PL.isName (PP.cur E σ).text) := by
  unfold seen
  cases PP.more E σ with
  | true => rw [if_pos rfl, Bool.true_and, PL.name_eq]
  | false => rw [if_neg (by decide), Bool.false_and]; decide +kernel
theorem seen_len (h : RS w0 b Y E σ) : (seen E σ).2.1.length ≤ 65536 := by
  unfold seen
  cases hm : PP.more E σ with
  | true =>
    obtain ⟨_, hlt⟩ := PP.more_err E hm
    rw [if_pos rfl]
    exact h.txt _ (List.mem_of_getElem? (PP.cur_at E hlt))
  | false => rw [if_neg (by decide)]; simp
theorem rnm_any (w : World) (h : RS w b Y E σ) :
    Calls Tryz.prog 48 #[.pointer (some ⟨b, 0, none⟩)] w fun r w' => r = .returned (.string ⟨(PP.nameP E σ).2.toArray⟩) ∧ RS w' b Y E (PP.nameP E σ).1 ∧ Fr b w w' := by
  have hsee := rsee_any w h
  unfold seenV at hsee
  have hst := seen_name E σ
  have hln := seen_len h
  have htx : PP.more E σ = true → (seen E σ).2.1 = (PP.cur E σ).text := fun hm => by unfold seen; rw [hm, if_pos rfl]
  have HH := Lib.hid h
  have HSEE := Lib.hid hsee
  unfold PP.nameP
  generalize (seen E σ).2.1 = tx at *
  generalize ((seen E σ).1 : Int) = kd at *
  generalize ((seen E σ).2.2 : Int) = ps at *
  have HNM := Lib.hid (fun w => rname_any ⟨tx.toArray⟩ w (by rw [Lib.size_eq]; unfold maxLen; simp; omega))
  clear hsee h
  cases hc : (PP.more E σ && PL.isName (PP.cur E σ).text) with
  | true =>
    rw [hc] at hst
    rw [if_pos rfl]
    simp only [Bool.and_eq_true] at hc
    have HMO := Lib.hid hc.1
    have HTX := Lib.hid (htx hc.1)
    have HST := Lib.hid hst
    clear hc hst htx hln
    go_enter Tryz.func48, Tryz.ntmps48
    go_wp2_with fail
    refine HSEE.out.mono ?_
    rintro e w1 ⟨rfl, hb1⟩
    have hb2 := hb1.alloc hb1.size (.cells #[.int .u8 kd, .string ⟨tx.toArray⟩, .int .i64 ps] 58)
    have hk2 := Blk.new w1 58 #[.int .u8 kd, .string ⟨tx.toArray⟩, .int .i64 ps]
    have hb1sz := hb1.size
    have HB2 := Lib.hid hb2
    have HK2 := Lib.hid hk2
    clear hb1 hb2 hk2
    go_wp2_with fail
    refine (HNM.out _).mono ?_
    rintro e w3 ⟨rfl, hb3⟩
    rw [HST.out]
    have hb3' := HB2.out.trans (hb3.mono HB2.out.size)
    have HS := Lib.hid (rskip_any w3 (HH.out.below hb3') HMO.out)
    have HB3 := Lib.hid hb3'
    have HK3 := Lib.hid (Blk.belowD HK2.out hb3)
    clear hb3 hb3'
    go_wp2_with fail
    refine HS.out.mono ?_
    rintro e w4 ⟨rfl, hp, hf⟩
    have HF := Lib.hid ((Fr.of_below HB3.out).trans hf)
    have HP := Lib.hid hp
    have x1 : w4.cell? ⟨w1.heap.size, 1, none⟩ = some (.string ⟨tx.toArray⟩) := by
      have hlt := HH.out.lt
      have h0 := HB2.out.size
      have hne : w1.heap.size ≠ b := by
        intro e
        have h5 := hb1sz
        omega
      exact (HK3.out.fr hf hne).cell 1
    clear hp hf
    go_wp2_with fail
    go_ret
    exact ⟨by rw [HTX.out]; rfl, HP.out, HF.out⟩
  | false =>
    rw [hc] at hst
    rw [if_neg (by decide)]
    have HST := Lib.hid hst
    clear hc hst htx hln
    go_enter Tryz.func48, Tryz.ntmps48
    go_wp2_with fail
    refine HSEE.out.mono ?_
    rintro e w1 ⟨rfl, hb1⟩
    have hb2 := hb1.alloc hb1.size (.cells #[.int .u8 kd, .string ⟨tx.toArray⟩, .int .i64 ps] 58)
    have hk2 := Blk.new w1 58 #[.int .u8 kd, .string ⟨tx.toArray⟩, .int .i64 ps]
    have HB2 := Lib.hid hb2
    clear hb1 hb2 hk2
    go_wp2_with fail
    refine (HNM.out _).mono ?_
    rintro e w3 ⟨rfl, hb3⟩
    rw [HST.out]
    have hb3' := HB2.out.trans (hb3.mono HB2.out.size)
    have HS := Lib.hid (rwrong_any w3 (HH.out.below hb3'))
    have HB3 := Lib.hid hb3'
    clear hb3 hb3'
    go_wp2_with fail
    refine HS.out.mono ?_
    rintro e w4 ⟨rfl, hp, hf⟩
    have HF := Lib.hid ((Fr.of_below HB3.out).trans hf)
    have HP := Lib.hid hp
    clear hp hf
    go_wp2_with fail
    go_ret
    exact ⟨rfl, HP.out, HF.out⟩
theorem seen_kind (E : PP.Env) (σ : PP.St) : decide ((seen E σ).1 = 2) = (PP.more E σ && decide ((PP.cur E σ).kind = 2)) := by
  unfold seen
  cases PP.more E σ with
  | true => rw [if_pos rfl, Bool.true_and]
  | false => rfl
def capAt (tx : List UInt8) (k : Nat) : Nat := PP.capped 0 (tx.take k)
theorem capAt_zero (tx : List UInt8) : capAt tx 0 = 0 := by simp [capAt, PP.capped]
theorem capAt_le (tx : List UInt8) (k : Nat) : capAt tx k ≤ 1099511627776 := PP.capped_le _ _ (by omega)
theorem capAt_succ (tx : List UInt8) (k : Nat) (h : k < tx.length) : capAt tx (k + 1) = min (10 * capAt tx k + (tx[k] - 48).toNat) 1099511627776 := by
  unfold capAt
  rw [List.take_succ_eq_append_getElem h, PP.capped_snoc]
theorem capAt_all (tx : List UInt8) {k : Nat} (h : tx.length ≤ k) : capAt tx k = PP.capped 0 tx := by
  unfold capAt; rw [List.take_of_length_le h]
def NumRel2 (tx : List UInt8) (n : Nat) (x i : Value) : Prop := ∃ k : Nat, k ≤ n ∧ i = .int .i64 k ∧ x = .int .i64 (capAt tx k : Int)
theorem rnum_any (low high : Int) (w : World) (hh : high ≤ 2147483647) (h : RS w b Y E σ) :
    Calls Tryz.prog 49 #[.pointer (some ⟨b, 0, none⟩), .int .i64 low, .int .i64 high] w fun r w' => r = .returned (.int .i64 (PP.numP E σ low high).2) ∧ RS w' b Y E (PP.numP E σ low high).1 ∧ Fr b w w' := by
  have hsee := rsee_any w h
  unfold seenV at hsee
  have hst := seen_kind E σ
  have hln := seen_len h
  have HH := Lib.hid h
  cases hc : (PP.more E σ && decide ((PP.cur E σ).kind = 2)) with
  | false =>
    rw [hc] at hst
    have hv : PP.numP E σ low high = (PP.reject E σ, 0) := by unfold PP.numP; rw [hc]; rfl
    rw [hv]
    generalize (seen E σ).2.1 = tx at *
    generalize (seen E σ).1 = kd at *
    generalize ((seen E σ).2.2 : Int) = ps at *
    have HSEE := Lib.hid hsee
    have e1 : ((kd : Int) != 2) = true := by simp at hst ⊢; omega
    clear hc hst hln hsee hv h
    go_enter Tryz.func49, Tryz.ntmps49
    go_wp2_with fail
    refine HSEE.out.mono ?_
    rintro e w1 ⟨rfl, hb1⟩
    have hb2 := hb1.alloc hb1.size (.cells #[.int .u8 (kd : Int), .string ⟨tx.toArray⟩, .int .i64 ps] 58)
    have HS := Lib.hid (rwrong_any _ (HH.out.below hb2))
    have HB2 := Lib.hid hb2
    clear hb1 hb2
    go_wp2_with fail
    refine HS.out.mono ?_
    rintro e w4 ⟨rfl, hp, hf⟩
    have HF := Lib.hid ((Fr.of_below HB2.out).trans hf)
    have HP := Lib.hid hp
    clear hp hf
    go_wp2_with fail
    go_ret
    exact ⟨rfl, HP.out, HF.out⟩
  | true =>
    have hc' := hc
    simp only [Bool.and_eq_true, decide_eq_true_iff] at hc'
    obtain ⟨hm, hkd⟩ := hc'
    have hv := PP.numP_capped E σ low high hh hm hkd
    have hsv : seen E σ = (2, (PP.cur E σ).text, (PP.cur E σ).pos) := by unfold seen; rw [hm, if_pos rfl, hkd]
    have hhere : (PP.cur E σ).pos = PP.here E σ := by
      obtain ⟨_, hlt⟩ := PP.more_err E hm
      unfold PP.here; rw [if_pos hlt]
    rw [hsv] at hsee hln
    simp only at hsee hln
    rw [hhere] at hsee
    generalize hres : PP.numP E σ low high = res at *
    generalize (PP.cur E σ).text = tx at *
    have HV := Lib.hid hv
    have HSEE := Lib.hid hsee
    have HM := Lib.hid hm
    clear hc hst hsee hv h hres hsv hhere hkd hm
    have hdz : (⟨tx.toArray⟩ : ByteArray).size = tx.length := by show tx.toArray.size = _; simp
    have hds : ∀ (k : Nat) (h : k < (⟨tx.toArray⟩ : ByteArray).size) (h2 : k < tx.length), ((⟨tx.toArray⟩ : ByteArray)[k]'h) = tx[k]'h2 := fun k h h2 => rfl
    generalize hDB : (⟨tx.toArray⟩ : ByteArray) = DB at *
    have HDS := Lib.hid hds
    have HDZ := Lib.hid hdz
    have hdb : DB.size ≤ 65536 := by omega
    clear hds hdz hDB hln
    go_enter Tryz.func49, Tryz.ntmps49
    go_wp2_with fail
    refine HSEE.out.mono ?_
    rintro e w1 ⟨rfl, hb1⟩
    have hb2 := hb1.alloc hb1.size (.cells #[.int .u8 2, .string DB, .int .i64 (PP.here E σ : Int)] 58)
    have hk2 := Blk.new w1 58 #[.int .u8 2, .string DB, .int .i64 (PP.here E σ : Int)]
    have y1 : (w1.alloc (.cells #[.int .u8 2, .string DB, .int .i64 (PP.here E σ : Int)] 58)).cell? ⟨w1.heap.size, 1, none⟩ = some (.string DB) := hk2.cell 1
    have y2 : (w1.alloc (.cells #[.int .u8 2, .string DB, .int .i64 (PP.here E σ : Int)] 58)).cell? ⟨w1.heap.size, 2, none⟩ = some (.int .i64 (PP.here E σ : Int)) := hk2.cell 2
    have h2 := HH.out.below hb2
    have HFAIL := Lib.hid (rfail_any (PP.here E σ) 2 (by decide) _ h2)
    have HSK := Lib.hid (rskip_any _ h2 HM.out)
    have HB2 := Lib.hid hb2
    clear hb1 hb2 hk2 h2
    go_wp2_with fail
    generalize (w1.alloc (.cells #[.int .u8 2, .string DB, .int .i64 (PP.here E σ : Int)] 58)) = w2 at *
    go_loop [8, 9] (fun x i => NumRel2 tx DB.size x i) (fun _ i => DB.size - (intOf i).toNat)
    case atStart => exact ⟨0, Nat.zero_le _, rfl, by rw [capAt_zero]; rfl⟩
    case round =>
      obtain ⟨k, hk, rfl, rfl⟩ := hrel
      have hcl := capAt_le tx k
      by_cases hlt : k < DB.size
      · have hsu := capAt_succ tx k (by rw [← HDZ.out]; exact hlt)
        rw [← HDS.out k hlt _] at hsu
        have hsub := sub48 DB[k]
        have hd : (DB[k] - 48).toNat < 256 := (DB[k] - 48).toNat_lt
        generalize (DB[k] - 48).toNat = dd at *
        have HSU := Lib.hid hsu
        generalize capAt tx k = cv at *
        clear hsu
        go_wp2_with fail
        go_round
        case rel => exact ⟨k + 1, by omega, by go_num, by rw [HSU.out]; congr 1; omega⟩
        case measure => simp [intOf]; omega
      · have hca := capAt_all tx (k := k) (by rw [← HDZ.out]; omega)
        have hv := HV.out
        rw [← hca] at hv
        generalize (capAt tx k : Int) = cv at *
        have HVV := Lib.hid hv
        clear hv hca HV
        have e0 : decide (k < DB.size) = false := by simpa using hlt
        by_cases h1 : cv < low
        · have g1 : decide (cv < low) = true := by simpa using h1
          have hres := HVV.out
          rw [if_pos (.inl h1)] at hres
          have HRES := Lib.hid hres
          clear hres h1
          go_wp2_with fail
          refine HFAIL.out.mono ?_
          rintro e w4 ⟨rfl, hp, hf⟩
          have HF := Lib.hid ((Fr.of_below HB2.out).trans hf)
          have HP := Lib.hid hp
          clear hp hf
          go_wp2_with fail
          go_ret
          exact ⟨by rw [HRES.out]; rfl, by rw [HRES.out]; exact HP.out, HF.out⟩
        · have g1 : decide (cv < low) = false := by simpa using h1
          by_cases h2 : high < cv
          · have g2 : decide (high < cv) = true := by simpa using h2
            have hres := HVV.out
            rw [if_pos (.inr h2)] at hres
            have HRES := Lib.hid hres
            clear hres h1 h2
            go_wp2_with fail
            refine HFAIL.out.mono ?_
            rintro e w4 ⟨rfl, hp, hf⟩
            have HF := Lib.hid ((Fr.of_below HB2.out).trans hf)
            have HP := Lib.hid hp
            clear hp hf
            go_wp2_with fail
            go_ret
            exact ⟨by rw [HRES.out]; rfl, by rw [HRES.out]; exact HP.out, HF.out⟩
          · have g2 : decide (high < cv) = false := by simpa using h2
            have hres := HVV.out
            rw [if_neg (by omega)] at hres
            have HRES := Lib.hid hres
            clear hres h1 h2
            go_wp2_with fail
            refine HSK.out.mono ?_
            rintro e w4 ⟨rfl, hp, hf⟩
            have HF := Lib.hid ((Fr.of_below HB2.out).trans hf)
            have HP := Lib.hid hp
            clear hp hf
            go_wp2_with fail
            go_ret
            exact ⟨by rw [HRES.out]; rfl, by rw [HRES.out]; exact HP.out, HF.out⟩
theorem rbin_any (s : ByteArray) (w : World) :
    Calls Tryz.prog 104 #[.string s] w fun r w' => r = .returned (.int .u8 (((PP.opOf s.data.toList).getD 0 : Nat) : Int)) ∧ Below w.heap.size w w' := by
  have HSY := Lib.hid (symbols_ex w)
  go_enter Tryz.func104, Tryz.ntmps104
  go_wp2_with fail
  refine HSY.out.mono ?_
  rintro e w1 ⟨g, rfl, hg1, hb1⟩
  have HG := Lib.hid hg1
  have HB := Lib.hid hb1
  clear hg1 hb1 HSY
  go_wp2_with fail
  go_loop [4] (fun i => ∃ k : Nat, k ≤ 18 ∧ i = .int .i64 ((k : Int) + 2) ∧ ∀ j, j < k → PP.symbol (j + 6) ≠ s.data.toList) (fun i => 20 - (intOf i).toNat)
  case atStart => exact ⟨0, by omega, rfl, fun j hj => by omega⟩
  case round =>
    obtain ⟨k, hk, rfl, hno⟩ := hrel
    by_cases hlt : k < 18
    · have c0 : w1.cell? ⟨g, k + 2, none⟩ = some (.string ⟨(PP.symbol (k + 6)).toArray⟩) := by
        have := (HG.out.cell (k + 6 - 4)).trans (symCells_at (k := k + 6) (by omega) (by omega))
        rwa [show k + 6 - 4 = k + 2 from by omega] at this
      have p1 : (0 : Int) ≤ (k : Int) + 2 := by omega
      have p2 : (k : Int) + 2 < 20 := by omega
      have p3 : ((k : Int) + 2).toNat = k + 2 := by omega
      have p4 : IntKind.u8.wrap ((k : Int) + 2) = (k : Int) + 2 := wrap_u8 (by omega) (by omega)
      have p5 : IntKind.u8.wrap (4 + ((k : Int) + 2)) = 4 + ((k : Int) + 2) := wrap_u8 (by omega) (by omega)
      cases he : (PP.symbol (k + 6) == s.data.toList) with
      | true =>
        have e1 : (PP.symbol (k + 6) == s.toList) = true := by rw [Lib.toList_data]; exact he
        have hop := PP.opOf_some hlt hno (by simpa using he)
        have HOP := Lib.hid hop
        clear hop he hno
        go_wp2_with fail
        go_ret
        exact ⟨by rw [HOP.out]; show Ending.returned (Value.int IntKind.u8 (4 + ((k : Int) + 2))) = _; congr 2; show 4 + ((k : Int) + 2) = ((k + 6 : Nat) : Int); omega, HB.out⟩
      | false =>
        have e1 : (PP.symbol (k + 6) == s.toList) = false := by rw [Lib.toList_data]; exact he
        have HNO := Lib.hid (show ∀ j, j < k + 1 → PP.symbol (j + 6) ≠ s.data.toList from fun j hj => by
          rcases Nat.lt_or_ge j k with h | h
          · exact hno j h
          · obtain rfl : j = k := by omega
            simpa using he)
        clear he hno
        go_wp2_with fail
        go_round
        case rel => exact ⟨k + 1, by omega, by go_num, HNO.out⟩
        case measure => simp [intOf]; omega
    · obtain rfl : k = 18 := by omega
      have HNO := Lib.hid (PP.opOf_none hno)
      clear hno
      go_wp2_with fail
      go_ret
      exact ⟨by rw [HNO.out]; rfl, HB.out⟩
end
end Go.Proofs.YtglaecalbamnkaaGreatDoor
