/- The contract of asm.number. -/
import Derived.Test.YtgeagpplihecmaaDoorAsC
namespace Go.Proofs.YtgeagpplihecmaaDoor
open Go.RowKit
open AS (Ins)
theorem digs_trim (l : List UInt8) : Lib.trimPrefix l [45] = AS.digs l ∧ Lib.hasPrefix l [45] = decide (l.head? = some 45) := by
  cases l with
  | nil => exact ⟨by decide, by decide⟩
  | cons b l =>
    by_cases h : b = 45
    · subst h; simp [Lib.trimPrefix, Lib.hasPrefix, AS.digs]
    · simp [Lib.trimPrefix, Lib.hasPrefix, AS.digs, h, List.isPrefixOf, Ne.symm h]
theorem bytes_at (d : List UInt8) (k : Nat) (hk : k < d.length) : ∀ h, (⟨d.toArray⟩ : ByteArray)[k]'h = d[k]'hk := fun h => by
  show d.toArray[k] = _
  simp
section
set_option maxHeartbeats 1000000
set_option maxRecDepth 100000
theorem number_any (s : ByteArray) (w : World) : Calls Tryd.prog 49 #[.string s] w fun e w' => e = .returned (.tuple #[.int .i64 ((AS.num s.data.toList).getD 0), .bool (AS.num s.data.toList).isSome]) ∧ w' = w := by
  have HCP := Lib.hid (Tryd.strings_CutPrefix s ⟨#[45]⟩ w)
  obtain ⟨t1, t2⟩ := digs_trim s.data.toList
  rw [show (⟨#[45]⟩ : ByteArray).data.toList = [45] from rfl, t1, t2] at HCP
  have hnum : AS.num s.data.toList = if AS.digs s.data.toList = [] ∨ 9 < (AS.digs s.data.toList).length ∨ ((AS.digs s.data.toList).head? = some 48 ∧ (1 < (AS.digs s.data.toList).length ∨ s.data.toList.head? = some 45)) ∨ (AS.digs s.data.toList).all AS.isDig = false then none
    else some (if s.data.toList.head? = some 45 then -(AS.val (AS.digs s.data.toList) : Int) else AS.val (AS.digs s.data.toList)) := rfl
  generalize hd : AS.digs s.data.toList = d at *
  generalize hn : s.data.toList.head? = hh at *
  generalize AS.num s.data.toList = R at *
  clear t1 t2 hd hn
  have HN := Lib.hid hnum
  clear hnum
  by_cases hA : d = []
  · subst hA
    go_enter Tryd.func49, Tryd.ntmps49
    go_wp2_with fail
    refine HCP.out.mono ?_
    rintro e w1 ⟨rfl, rfl⟩
    go_wp2_with fail
    go_ret2
    rw [HN.out]
    exact ⟨rfl, rfl⟩
  · have e1 : List.isEmpty d = false := by cases d <;> simp_all
    by_cases hB : 9 < d.length
    · have e2 : decide ((9 : Int) < (d.length : Int)) = true := by simp; omega
      go_enter Tryd.func49, Tryd.ntmps49
      go_wp2_with fail
      refine HCP.out.mono ?_
      rintro e w1 ⟨rfl, rfl⟩
      go_wp2_with fail
      go_ret2
      rw [HN.out, if_pos (.inr (.inl hB))]
      exact ⟨rfl, rfl⟩
    · have e2 : decide ((9 : Int) < (d.length : Int)) = false := by simp; omega
      obtain ⟨c, t, rfl⟩ : ∃ c t, d = c :: t := by cases d with | nil => exact absurd rfl hA | cons c t => exact ⟨c, t, rfl⟩
      have e9 : decide ((9 : Int) < (t.length : Int) + 1) = false := by simp only [List.length_cons] at hB; simp only [decide_eq_false_iff_not]; omega
      clear e2
      by_cases hc : c = 48
      · subst hc
        by_cases h1 : 1 < (48 :: t).length
        · have e3 : decide ((1 : Int) < (t.length : Int) + 1) = true := by simp only [List.length_cons] at h1; simp only [decide_eq_true_eq]; omega
          go_enter Tryd.func49, Tryd.ntmps49
          go_wp2_with fail
          refine HCP.out.mono ?_
          rintro e w1 ⟨rfl, rfl⟩
          go_wp2_with fail
          go_ret2
          rw [HN.out, if_pos (.inr (.inr (.inl ⟨rfl, .inl h1⟩)))]
          exact ⟨rfl, rfl⟩
        · have e3 : decide ((1 : Int) < (t.length : Int) + 1) = false := by simp only [List.length_cons] at h1; simp only [decide_eq_false_iff_not]; omega
          by_cases h2 : hh = some 45
          · have e4 : decide (hh = some 45) = true := by simp [h2]
            go_enter Tryd.func49, Tryd.ntmps49
            go_wp2_with fail
            refine HCP.out.mono ?_
            rintro e w1 ⟨rfl, rfl⟩
            go_wp2_with fail
            go_ret2
            rw [HN.out, if_pos (.inr (.inr (.inl ⟨rfl, .inr h2⟩)))]
            exact ⟨rfl, rfl⟩
          · have e4 : decide (hh = some 45) = false := by simp [h2]
            have hix : ∀ h, (⟨(48 :: t : List UInt8).toArray⟩ : ByteArray)[0]'h = 48 := fun h => rfl
            have hno : ¬ ((48 :: t : List UInt8).head? = some 48 ∧ (1 < (48 :: t : List UInt8).length ∨ hh = some 45)) := fun h => h.2.elim h1 h2
            go_enter Tryd.func49, Tryd.ntmps49
            go_wp2_with fail
            refine HCP.out.mono ?_
            rintro e w1 ⟨rfl, rfl⟩
            go_wp2_with fail
            have hsz : (⟨(48 :: t : List UInt8).toArray⟩ : ByteArray).size = (48 :: t : List UInt8).length := by simp [ByteArray.size]
            have hat := bytes_at (48 :: t : List UInt8)
            clear hix
            have HNB := Lib.hid hno
            have hl2 : t.length ≤ 8 := by simp at hB; omega
            clear hno HCP
            generalize hD : (⟨(48 :: t : List UInt8).toArray⟩ : ByteArray) = D at *
            clear hD
            have hnl : ((t.length : Int) + 1) = (D.size : Int) := by rw [hsz]; simp
            rw [hnl]
            have hds : D.size ≤ 9 := by rw [hsz]; simp; omega
            generalize hdd : (48 :: t : List UInt8) = d at *
            have HSZ := Lib.hid hsz
            have HAT := Lib.hid hat
            clear hsz hat hnl
            go_loopw [6, 33] (fun v i wr => ∃ k : Nat, k ≤ D.size ∧ i = .int .i64 (k : Int) ∧ v = .int .i64 (AS.val (d.take k) : Int) ∧ (d.take k).all AS.isDig = true ∧ wr = w1) (fun _ i _ => D.size - (intOf i).toNat)
            case atStart => exact ⟨0, by omega, rfl, by simp [AS.val], by simp, rfl⟩
            case round =>
              obtain ⟨k, hk, rfl, rfl, hall, rfl⟩ := hrel
              by_cases hlt : k < D.size
              · have hlt' : k < d.length := by rw [← HSZ.out]; exact hlt
                have hL := HAT.out k hlt'
                have q1 : (k : Int) < (D.size : Int) := by omega
                have hvl := AS.val_lt _ hall
                have hp9 : 10 ^ (d.take k).length ≤ 10 ^ 9 := Nat.pow_le_pow_right (by decide) (by rw [List.length_take]; omega)
                have hv9 : AS.val (d.take k) < 1000000000 := Nat.lt_of_lt_of_le hvl hp9
                have htk : d.take (k + 1) = d.take k ++ [d[k]] := by rw [List.take_add_one, List.getElem?_eq_getElem hlt']; rfl
                have hva : AS.val (d.take (k + 1)) = AS.val (d.take k) * 10 + ((d[k]'hlt').toNat - 48) := by rw [htk, AS.val_app]
                have hal : (d.take (k + 1)).all AS.isDig = AS.isDig (d[k]'hlt') := by rw [htk, List.all_append, hall]; simp
                have hmem : d[k]'hlt' ∈ d := List.getElem_mem hlt'
                generalize d[k]'hlt' = b at *
                have HVA := Lib.hid hva
                have HAL := Lib.hid hal
                have HALL := Lib.hid hall
                clear hvl hp9 htk hva hal hall
                generalize AS.val (d.take k) = V at *
                have hb255 : b.toNat ≤ 255 := by have := b.toNat_lt; omega
                cases hdig : AS.isDig b with
                | false =>
                  have hR : R = none := by
                    rw [HN.out, if_pos]
                    refine .inr (.inr (.inr ?_))
                    rw [List.all_eq_false]
                    exact ⟨b, hmem, by rw [hdig]; simp⟩
                  by_cases hlo : b.toNat < 48
                  · have x1 : decide ((b.toNat : Int) < 48) = true := by simp; omega
                    go_wp2_with fail
                    go_ret2
                    rw [hR]; exact ⟨rfl, rfl⟩
                  · have x1 : decide ((b.toNat : Int) < 48) = false := by simp; omega
                    have hhi : 57 < b.toNat := by
                      unfold AS.isDig at hdig
                      simp only [Bool.and_eq_false_iff, decide_eq_false_iff_not] at hdig
                      omega
                    have x2 : decide ((57 : Int) < (b.toNat : Int)) = true := by simp; omega
                    go_wp2_with fail
                    go_ret2
                    rw [hR]; exact ⟨rfl, rfl⟩
                | true =>
                  obtain ⟨g1, g2⟩ : 48 ≤ b.toNat ∧ b.toNat ≤ 57 := by unfold AS.isDig at hdig; simpa using hdig
                  have x1 : decide ((b.toNat : Int) < 48) = false := by simp; omega
                  have x2 : decide ((57 : Int) < (b.toNat : Int)) = false := by simp; omega
                  have x3 : ((b.toNat : Int) - 48) % 256 = (b.toNat : Int) - 48 := by omega
                  go_wp2_with fail
                  refine ⟨⟨k + 1, by omega, by simp, congrArg (Value.int .i64) ?_, by rw [HAL.out]; exact hdig, trivial⟩, by simp [intOf]; omega⟩
                  rw [HVA.out]
                  omega
              · have hkl : k = d.length := by have := HSZ.out; omega
                have htk : d.take k = d := by rw [hkl]; exact List.take_length
                rw [htk] at hall ⊢
                have hR : R = some (if hh = some 45 then -(AS.val d : Int) else AS.val d) := by
                  rw [HN.out, if_neg]
                  rintro (h | h | h | h)
                  · exact hA h
                  · exact hB h
                  · exact HNB.out h
                  · rw [hall] at h; cases h
                have hvl := AS.val_lt _ hall
                have hp9 : 10 ^ d.length ≤ 10 ^ 9 := Nat.pow_le_pow_right (by decide) (by omega)
                have hv9 : AS.val d < 1000000000 := Nat.lt_of_lt_of_le hvl hp9
                have HR := Lib.hid hR
                have q1 : ¬ (k : Int) < (D.size : Int) := by omega
                clear hvl hp9 hR htk hall hkl
                generalize AS.val d = V at *
                by_cases h45 : hh = some 45
                · exact absurd h45 h2
                · have x1 : decide (hh = some 45) = false := by simp [h45]
                  go_wp2_with fail
                  go_ret2
                  rw [HR.out, if_neg h45]
                  exact ⟨rfl, rfl⟩
      · have hix : ∀ h, (⟨(c :: t).toArray⟩ : ByteArray)[0]'h = c := fun h => rfl
        have e3 : ((c.toNat : Int) == 48) = false := by
          refine beq_eq_false_iff_ne.2 (fun h => hc ?_)
          apply UInt8.toNat.inj
          show c.toNat = 48
          omega
        have hno : ¬ ((c :: t).head? = some 48 ∧ (1 < (c :: t).length ∨ hh = some 45)) := fun h => hc (by simpa using h.1)
        go_enter Tryd.func49, Tryd.ntmps49
        go_wp2_with fail
        refine HCP.out.mono ?_
        rintro e w1 ⟨rfl, rfl⟩
        go_wp2_with fail
        have hsz : (⟨(c :: t).toArray⟩ : ByteArray).size = (c :: t).length := by simp [ByteArray.size]
        have hat := bytes_at (c :: t)
        clear hix
        have HNB := Lib.hid hno
        have hl2 : t.length ≤ 8 := by simp at hB; omega
        clear hno HCP
        generalize hD : (⟨(c :: t).toArray⟩ : ByteArray) = D at *
        clear hD
        have hnl : ((t.length : Int) + 1) = (D.size : Int) := by rw [hsz]; simp
        rw [hnl]
        have hds : D.size ≤ 9 := by rw [hsz]; simp; omega
        generalize hdd : c :: t = d at *
        have HSZ := Lib.hid hsz
        have HAT := Lib.hid hat
        clear hsz hat hnl
        go_loopw [6, 33] (fun v i wr => ∃ k : Nat, k ≤ D.size ∧ i = .int .i64 (k : Int) ∧ v = .int .i64 (AS.val (d.take k) : Int) ∧ (d.take k).all AS.isDig = true ∧ wr = w1) (fun _ i _ => D.size - (intOf i).toNat)
        case atStart => exact ⟨0, by omega, rfl, by simp [AS.val], by simp, rfl⟩
        case round =>
          obtain ⟨k, hk, rfl, rfl, hall, rfl⟩ := hrel
          by_cases hlt : k < D.size
          · have hlt' : k < d.length := by rw [← HSZ.out]; exact hlt
            have hL := HAT.out k hlt'
            have q1 : (k : Int) < (D.size : Int) := by omega
            have hvl := AS.val_lt _ hall
            have hp9 : 10 ^ (d.take k).length ≤ 10 ^ 9 := Nat.pow_le_pow_right (by decide) (by rw [List.length_take]; omega)
            have hv9 : AS.val (d.take k) < 1000000000 := Nat.lt_of_lt_of_le hvl hp9
            have htk : d.take (k + 1) = d.take k ++ [d[k]] := by rw [List.take_add_one, List.getElem?_eq_getElem hlt']; rfl
            have hva : AS.val (d.take (k + 1)) = AS.val (d.take k) * 10 + ((d[k]'hlt').toNat - 48) := by rw [htk, AS.val_app]
            have hal : (d.take (k + 1)).all AS.isDig = AS.isDig (d[k]'hlt') := by rw [htk, List.all_append, hall]; simp
            have hmem : d[k]'hlt' ∈ d := List.getElem_mem hlt'
            generalize d[k]'hlt' = b at *
            have HVA := Lib.hid hva
            have HAL := Lib.hid hal
            have HALL := Lib.hid hall
            clear hvl hp9 htk hva hal hall
            generalize AS.val (d.take k) = V at *
            have hb255 : b.toNat ≤ 255 := by have := b.toNat_lt; omega
            cases hdig : AS.isDig b with
            | false =>
              have hR : R = none := by
                rw [HN.out, if_pos]
                refine .inr (.inr (.inr ?_))
                rw [List.all_eq_false]
                exact ⟨b, hmem, by rw [hdig]; simp⟩
              by_cases hlo : b.toNat < 48
              · have x1 : decide ((b.toNat : Int) < 48) = true := by simp; omega
                go_wp2_with fail
                go_ret2
                rw [hR]; exact ⟨rfl, rfl⟩
              · have x1 : decide ((b.toNat : Int) < 48) = false := by simp; omega
                have hhi : 57 < b.toNat := by
                  unfold AS.isDig at hdig
                  simp only [Bool.and_eq_false_iff, decide_eq_false_iff_not] at hdig
                  omega
                have x2 : decide ((57 : Int) < (b.toNat : Int)) = true := by simp; omega
                go_wp2_with fail
                go_ret2
                rw [hR]; exact ⟨rfl, rfl⟩
            | true =>
              obtain ⟨g1, g2⟩ : 48 ≤ b.toNat ∧ b.toNat ≤ 57 := by unfold AS.isDig at hdig; simpa using hdig
              have x1 : decide ((b.toNat : Int) < 48) = false := by simp; omega
              have x2 : decide ((57 : Int) < (b.toNat : Int)) = false := by simp; omega
              have x3 : ((b.toNat : Int) - 48) % 256 = (b.toNat : Int) - 48 := by omega
              go_wp2_with fail
              refine ⟨⟨k + 1, by omega, by simp, congrArg (Value.int .i64) ?_, by rw [HAL.out]; exact hdig, trivial⟩, by simp [intOf]; omega⟩
              rw [HVA.out]
              omega
          · have hkl : k = d.length := by have := HSZ.out; omega
            have htk : d.take k = d := by rw [hkl]; exact List.take_length
            rw [htk] at hall ⊢
            have hR : R = some (if hh = some 45 then -(AS.val d : Int) else AS.val d) := by
              rw [HN.out, if_neg]
              rintro (h | h | h | h)
              · exact hA h
              · exact hB h
              · exact HNB.out h
              · rw [hall] at h; cases h
            have hvl := AS.val_lt _ hall
            have hp9 : 10 ^ d.length ≤ 10 ^ 9 := Nat.pow_le_pow_right (by decide) (by omega)
            have hv9 : AS.val d < 1000000000 := Nat.lt_of_lt_of_le hvl hp9
            have HR := Lib.hid hR
            have q1 : ¬ (k : Int) < (D.size : Int) := by omega
            clear hvl hp9 hR htk hall hkl
            generalize AS.val d = V at *
            by_cases h45 : hh = some 45
            · have x1 : decide (hh = some 45) = true := by simp [h45]
              go_wp2_with fail
              go_ret2
              rw [HR.out, if_pos h45]
              exact ⟨rfl, rfl⟩
            · have x1 : decide (hh = some 45) = false := by simp [h45]
              go_wp2_with fail
              go_ret2
              rw [HR.out, if_neg h45]
              exact ⟨rfl, rfl⟩
end
end Go.Proofs.YtgeagpplihecmaaDoor
