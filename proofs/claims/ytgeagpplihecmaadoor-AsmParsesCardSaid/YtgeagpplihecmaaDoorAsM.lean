/- The contract of the law's own plainer. -/
import Derived.Test.YtgeagpplihecmaaDoorAsL
import Derived.Test.YtgeagpplihecmaaDoorPlainAsm3
namespace Go.Proofs.YtgeagpplihecmaaDoor
open Go.RowKit
def PlRel (s : ByteArray) (w : World) (o sk i : Value) (wr : World) : Prop :=
  ∃ (k : Nat) (S : ByteArray) (skip : Bool), k ≤ s.size ∧ o = .string S ∧ sk = .bool skip ∧ i = .int .i64 (k : Int) ∧ S.size ≤ k ∧ S.data.toList ++ AS.plainer skip (s.data.toList.drop k) = AS.plainer false s.data.toList ∧ wr = w
theorem ext_one (s : ByteArray) (k : Nat) (h : k < s.size) : (s.extract k (k + 1)).data.toList = [s.data.toList[k]'(by rw [show s.data.toList.length = s.size from Array.length_toList]; exact h)] ∧ (s.extract k (k + 1)).size = 1 := by
  have hl : s.data.toList.length = s.size := Array.length_toList
  have h1 : (s.extract k (k + 1)).data.toList = (s.data.toList.drop k).take 1 := by simp
  have h2 : (s.data.toList.drop k).take 1 = [s.data.toList[k]'(by omega)] := by rw [List.drop_eq_getElem_cons (by omega)]; rfl
  refine ⟨h1.trans h2, ?_⟩
  have h3 : (s.extract k (k + 1)).data.toList.length = (s.extract k (k + 1)).size := Array.length_toList
  rw [← h3, h1, h2]; rfl
section
set_option maxHeartbeats 1000000
set_option maxRecDepth 100000
theorem plainer_any (s : ByteArray) (w : World) (hs : s.size ≤ 100000) : Calls Tryd.prog 19 #[.string s] w fun e w' => (∃ S : ByteArray, e = .returned (.string S) ∧ S.data.toList = AS.plainer false s.data.toList ∧ S.size ≤ s.size) ∧ w' = w := by
  have hnot : ∀ (x : Bool) (w : World), (Op.unary .not (.bool x)).run Tryd.prog w = .ok (.bool (!x)) w := fun _ _ => rfl
  have hl : s.data.toList.length = s.size := Array.length_toList
  go_enter Tryd.func19, Tryd.ntmps19
  go_wp2_with fail
  go_loopw [3, 4, 5] (fun o sk i wr => PlRel s w o sk i wr) (fun _ _ i _ => s.size - (intOf i).toNat)
  case atStart => exact ⟨0, ⟨#[]⟩, false, Nat.zero_le _, rfl, rfl, rfl, by decide, by simp, rfl⟩
  case round =>
    obtain ⟨k, S, skip, hk, rfl, rfl, rfl, hS, hrel, rfl⟩ := hrel
    by_cases hlt : k < s.size
    · have q1 : (k : Int) < (s.size : Int) := by omega
      obtain ⟨x1, x2⟩ := ext_one s k hlt
      have hsk : ∀ h, s[k]'h = s.data.toList[k]'(by omega) := fun h => rfl
      have hdr : s.data.toList.drop k = s.data.toList[k]'(by omega) :: s.data.toList.drop (k + 1) := List.drop_eq_getElem_cons (by omega)
      rw [hdr, AS.plainer] at hrel
      generalize s.data.toList[k]'(by omega) = c at *
      have hcat : ¬ (9223372036854775807 : Int) < (S.size : Int) + ((s.extract k (k + 1)).size : Int) := by omega
      have hcd : (S ++ s.extract k (k + 1)).data.toList = S.data.toList ++ [c] := by rw [← x1]; simp
      have hcs : (S ++ s.extract k (k + 1)).size = S.size + 1 := by rw [ByteArray.size_append, x2]
      have HRL := Lib.hid hrel
      have HCD := Lib.hid hcd
      have HCS := Lib.hid hcs
      clear hrel hdr hcd hcs
      by_cases h59 : c = 59
      · subst h59
        go_wp2_with fail
        refine ⟨⟨k + 1, S, true, by omega, rfl, rfl, by simp, by omega, ?_, rfl⟩, by simp [intOf]; omega⟩
        have := HRL.out
        simpa using this
      · have b59 : ((c.toNat : Int) == 59) = false := by
          refine beq_eq_false_iff_ne.2 (fun h => h59 (UInt8.toNat.inj ?_)); show c.toNat = 59; omega
        by_cases h10 : c = 10
        · subst h10
          go_wp2_with fail
          refine ⟨⟨k + 1, S ++ s.extract k (k + 1), false, by omega, rfl, rfl, by simp, by rw [HCS.out]; omega, ?_, rfl⟩, by simp [intOf]; omega⟩
          have := HRL.out
          rw [HCD.out, List.append_assoc]
          simpa using this
        · have b10 : ((c.toNat : Int) == 10) = false := by
            refine beq_eq_false_iff_ne.2 (fun h => h10 (UInt8.toNat.inj ?_)); show c.toNat = 10; omega
          have hr := HRL.out
          rw [if_neg h10] at hr
          cases skip with
          | true =>
            go_wp2_with fail
            refine ⟨⟨k + 1, S, true, by omega, rfl, rfl, by simp, by omega, ?_, rfl⟩, by simp [intOf]; omega⟩
            simpa using hr
          | false =>
            go_wp2_with fail
            refine ⟨⟨k + 1, S ++ s.extract k (k + 1), false, by omega, rfl, rfl, by simp, by rw [HCS.out]; omega, ?_, rfl⟩, by simp [intOf]; omega⟩
            rw [HCD.out, List.append_assoc]
            simpa [h59] using hr
    · have hkk : k = s.size := by omega
      have q1 : ¬ (k : Int) < (s.size : Int) := by omega
      have hf : S.data.toList = AS.plainer false s.data.toList := by
        rw [← hrel, List.drop_eq_nil_of_le (by omega), AS.plainer, List.append_nil]
      have HFN := Lib.hid hf
      clear hrel hf
      go_wp2_with fail
      go_ret
      exact ⟨⟨S, rfl, HFN.out, by omega⟩, rfl⟩
end
end Go.Proofs.YtgeagpplihecmaaDoor
