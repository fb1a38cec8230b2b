/- The contracts of the parser's name and number. -/
import Derived.Test.YtaaaicpjlaeiiaaDoorParB
import Derived.Test.YtaaaicpjlaeiiaaDoorName1
namespace Go.Proofs.YtaaaicpjlaeiiaaDoor
open Go.RowKit Go.Maps

section
set_option maxHeartbeats 400000
set_option maxRecDepth 100000
/-- A text without its leading zeros. -/
def trim0 (l : List UInt8) : List UInt8 := l.dropWhile (· == 48)
theorem drop0_step {l : List UInt8} {k : Nat} (h : k < l.length) (h0 : l[k] = 48) : trim0 (l.drop k) = trim0 (l.drop (k + 1)) := by
  unfold trim0
  rw [List.drop_eq_getElem_cons h, List.dropWhile_cons, h0]; rfl
theorem drop0_stop {l : List UInt8} {k : Nat} (h : k < l.length) (h0 : l[k] ≠ 48) : trim0 (l.drop k) = l.drop k := by
  unfold trim0
  rw [List.drop_eq_getElem_cons h, List.dropWhile_cons]
  have : (l[k] == 48) = false := by simpa using h0
  rw [this]; rfl
theorem trimByte_any (s : ByteArray) (w : World) (hs : s.size ≤ maxLen) :
    Calls Tryd.prog 137 #[.string s, .int .u8 48] w fun e w' => e = .returned (.string ⟨(trim0 s.data.toList).toArray⟩) ∧ w = w' := by
  have hsl : s.data.toList.length = s.size := Array.length_toList
  have HSL := Lib.hid hsl
  clear hsl
  unfold maxLen at hs
  go_enter Tryd.func137, Tryd.ntmps137
  go_wp2_with fail
  go_loop [0] (fun x => ∃ k : Nat, k ≤ s.size ∧ x = .string (s.extract k s.size) ∧ trim0 s.data.toList = trim0 (s.data.toList.drop k)) (fun x => match x with | .string t => t.size | _ => 0)
  case atStart => exact ⟨0, Nat.zero_le _, by rw [show s.extract 0 s.size = s from bytes_ext (by rw [drop_bytes]; simp)], by simp⟩
  case round =>
    obtain ⟨k, hk, rfl, ht⟩ := hrel
    have HT := Lib.hid ht
    clear ht
    by_cases hlt : k < s.size
    · have hx : (s.extract k s.size).size = s.size - k := by simp
      generalize hX : s.extract k s.size = Y at *
      have hy : 0 < Y.size := by omega
      have hY0 : Y[0] = s[k] := by
        have h1 := drop_bytes s k
        rw [hX] at h1
        have h2 : Y.data.toList[0]'(by rw [Array.length_toList]; exact hy) = (s.data.toList.drop k)[0]'(by rw [← h1, Array.length_toList]; exact hy) := by simp [h1]
        have h3 : Y.data[0]'hy = s.data[k]'hlt := by simpa using h2
        exact h3
      have hnext : Y.extract 1 Y.size = s.extract (k + 1) s.size := by
        apply bytes_ext
        rw [drop_bytes, drop_bytes, ← hX, drop_bytes, List.drop_drop]
      have hkl : k < s.data.toList.length := by rw [HSL.out]; exact hlt
      have hyz : decide ((0 : Int) < (Y.size : Int)) = true := by simp; omega
      have hyz2 : decide (0 < Y.size) = true := by simp; omega
      have HX := Lib.hid hX
      have HNX := Lib.hid hnext
      have HY0 := Lib.hid hY0
      have Hx := Lib.hid hx
      have hyb : Y.size ≤ 9223372036854775807 := by omega
      clear hX hnext hY0 hx
      by_cases h48 : s[k] = 48
      · have hb : ((Y[0].toNat : Int) == 48) = true := by rw [HY0.out, h48]; rfl
        have hst := drop0_step hkl (by exact h48)
        have HST := Lib.hid hst
        clear hst h48
        go_wp2_with fail
        go_round
        case rel => exact ⟨k + 1, by omega, by rw [HNX.out], by rw [HT.out, HST.out]⟩
        case measure => simp; omega
      · have hb : ((Y[0].toNat : Int) == 48) = false := by
          rw [HY0.out, ← show (s[k] == 48) = ((s[k].toNat : Int) == 48) from PL.byte_beq _ _]
          simpa using h48
        have hst := drop0_stop hkl (by exact h48)
        have HST := Lib.hid hst
        clear hst h48
        go_wp2_with fail
        go_ret
        refine ⟨?_, rfl⟩
        rw [HT.out, HST.out, show (⟨(s.data.toList.drop k).toArray⟩ : ByteArray) = Y from bytes_ext (by rw [← HX.out, drop_bytes])]
        rfl
    · have hz : (s.extract k s.size).size = 0 := by simp; omega
      have htn : trim0 (s.data.toList.drop k) = [] := by rw [List.drop_of_length_le (by rw [HSL.out]; omega)]; rfl
      generalize hX : s.extract k s.size = Y at *
      have hyz : decide ((0 : Int) < (Y.size : Int)) = false := decide_eq_false (by omega)
      have hyz2 : decide (0 < Y.size) = false := decide_eq_false (by omega)
      have HTN := Lib.hid htn
      have HZ := Lib.hid hz
      clear hX htn hz
      go_wp2_with fail
      go_ret
      refine ⟨?_, rfl⟩
      rw [HT.out, HTN.out, show (⟨([] : List UInt8).toArray⟩ : ByteArray) = Y from bytes_ext (by
        have : Y.data.toList.length = 0 := by rw [Array.length_toList]; exact HZ.out
        rw [List.eq_nil_of_length_eq_zero this])]
      rfl
theorem trimLeft_any (s : ByteArray) (w : World) (hs : s.size ≤ maxLen) :
    Calls Tryd.prog 125 #[.string s, .string ⟨#[48]⟩] w fun e w' => e = .returned (.string ⟨(trim0 s.data.toList).toArray⟩) ∧ w = w' := by
  by_cases h0 : s.size = 0
  · have he : s.data.toList = [] := List.eq_nil_of_length_eq_zero (by rw [Array.length_toList]; exact h0)
    have hie : s.toList.isEmpty = true := by rw [Lib.toList_data, he]; rfl
    have hie2 : s.toList = [] := by rw [Lib.toList_data, he]
    have hfin : (⟨(trim0 s.data.toList).toArray⟩ : ByteArray) = s := bytes_ext (by rw [he]; rfl)
    rw [hfin]
    clear hfin he h0
    go_enter Tryd.func125, Tryd.ntmps125
    go_wp2_with fail
    go_ret
    exact ⟨rfl, rfl⟩
  · have hne : s.data.toList ≠ [] := by intro h; have := congrArg List.length h; rw [Array.length_toList] at this; exact h0 this
    have hie : s.toList.isEmpty = false := by rw [Lib.toList_data]; simpa using hne
    have HB := Lib.hid (trimByte_any s w hs)
    clear hne h0
    go_enter Tryd.func125, Tryd.ntmps125
    go_wp2_with (go_at_call 137; refine HB.out.mono ?_; rintro e w' ⟨rfl, rfl⟩)
    go_ret
    exact ⟨rfl, rfl⟩
end
end Go.Proofs.YtaaaicpjlaeiiaaDoor
