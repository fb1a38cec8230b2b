/- The contracts of the reference's small functions. -/
import Derived.Test.YtgacfcdpgcpjeaaDoorLexB
import Derived.Test.YtgacfcdpgcpjeaaDoorMem
import Derived.Test.YtgacfcdpgcpjeaaDoorPlainRef
namespace Go.Proofs.YtgacfcdpgcpjeaaDoor
open Go.RowKit

theorem rletter_any (c : UInt8) (w : World) :
    Calls Tryd.prog 38 #[.int .u8 (c.toNat : Int)] w fun e w' => e = .returned (.bool (PL.isLetter c)) ∧ w = w' := by
  by_cases h1 : (97 : Int) ≤ (c.toNat : Int) <;> by_cases h2 : (c.toNat : Int) ≤ 122
  all_goals
    go_enter Tryd.func38, Tryd.ntmps38
    go_wp2
    go_ret
    exact ⟨by rw [PL.isLetter_eq]; simp [h1, h2], rfl⟩
theorem rdigit_any (c : UInt8) (w : World) :
    Calls Tryd.prog 39 #[.int .u8 (c.toNat : Int)] w fun e w' => e = .returned (.bool (PL.isDigit c)) ∧ w = w' := by
  by_cases h1 : (48 : Int) ≤ (c.toNat : Int) <;> by_cases h2 : (c.toNat : Int) ≤ 57
  all_goals
    go_enter Tryd.func39, Tryd.ntmps39
    go_wp2
    go_ret
    exact ⟨by rw [PL.isDigit_eq]; simp [h1, h2], rfl⟩
theorem rspace_any (c : UInt8) (w : World) :
    Calls Tryd.prog 40 #[.int .u8 (c.toNat : Int)] w fun e w' => e = .returned (.bool (PL.isSpace c)) ∧ w = w' := by
  cases h1 : ((c.toNat : Int) == 32) <;> cases h2 : ((c.toNat : Int) == 9) <;> cases h3 : ((c.toNat : Int) == 13) <;> cases h4 : ((c.toNat : Int) == 10)
  all_goals
    go_enter Tryd.func40, Tryd.ntmps40
    go_wp2
    go_ret
    exact ⟨by rw [PL.isSpace_eq]; simp [h1, h2, h3, h4], rfl⟩

/-- A slice value reads as a list of texts. -/
def StrsAt (w : World) (A : Option Addr) (ss : List (List UInt8)) : Prop :=
  ss ≠ [] → ∃ b o, A = some ⟨b, o, none⟩ ∧ b < w.heap.size ∧ ∀ i x, ss[i]? = some x → w.cell? ⟨b, o + i, none⟩ = some (.string ⟨x.toArray⟩)
def NotIn (ss : List (List UInt8)) (x : List UInt8) (k : Nat) : Prop := ∀ i y, ss[i]? = some y → i < k → y ≠ x
theorem NotIn.next {ss : List (List UInt8)} {x y : List UInt8} {k : Nat} (h : NotIn ss x k) (hy : ss[k]? = some y) (hne : y ≠ x) : NotIn ss x (k + 1) := by
  intro i z hz hi
  rcases Nat.lt_or_ge i k with h1 | h1
  · exact h i z hz h1
  · obtain rfl : i = k := by omega
    rw [hy] at hz; injection hz with hz; rw [← hz]; exact hne
def hasB (ss : List (List UInt8)) (x : List UInt8) : Bool := ss.contains x
theorem NotIn.done {ss : List (List UInt8)} {x : List UInt8} {k : Nat} (h : NotIn ss x k) (hk : ss.length ≤ k) : hasB ss x = false := by
  unfold hasB
  cases hc : ss.contains x with
  | false => rfl
  | true =>
    have hm : x ∈ ss := by simpa using hc
    obtain ⟨i, hi, rfl⟩ := List.mem_iff_getElem.1 hm
    exact absurd rfl (h i _ (List.getElem?_eq_getElem hi) (by omega))

set_option maxHeartbeats 400000 in
theorem in_any (A : Option Addr) (n c : Nat) (ss : List (List UInt8)) (s : ByteArray) (w : World) (hN : ss.length = n) (h : StrsAt w A ss) (_hn : n ≤ 9223372036854775806) :
    Calls Tryd.prog 20 #[.slice A n c, .string s] w fun e w' => e = .returned (.bool (hasB ss s.data.toList)) ∧ w = w' := by
  have HN := Lib.hid hN
  clear hN
  go_enter Tryd.func20, Tryd.ntmps20
  go_wp2_with fail
  go_loop [5] (fun i => ∃ k : Nat, k ≤ n ∧ i = .int .i64 k ∧ NotIn ss s.data.toList k) (fun i => n - (intOf i).toNat)
  case atStart => exact ⟨0, Nat.zero_le _, rfl, fun i y _ hi => by omega⟩
  case round =>
    obtain ⟨k, hk, rfl, hno⟩ := hrel
    by_cases hlt : k < n
    · obtain ⟨x, hx⟩ : ∃ x, ss[k]? = some x := ⟨_, List.getElem?_eq_getElem (by rw [HN.out]; exact hlt)⟩
      obtain ⟨b, o, rfl, hb, hc⟩ := h (by rintro rfl; have := HN.out; simp at this; omega)
      have hc0 := hc k x hx
      have HX := Lib.hid hx
      have HNO := Lib.hid hno
      clear hc h hx hno
      by_cases he : x = s.data.toList
      · have heq : (x == s.toList) = true := by rw [Lib.toList_data]; simpa using he
        go_wp2_with fail
        go_ret
        exact ⟨by rw [show hasB ss s.data.toList = true from by unfold hasB; rw [← he]; simpa using List.mem_of_getElem? HX.out]; rfl, rfl⟩
      · have heq : (x == s.toList) = false := by rw [Lib.toList_data]; simpa using he
        go_wp2_with fail
        go_round
        case rel => exact ⟨k + 1, by omega, by go_num, HNO.out.next HX.out he⟩
        case measure => simp [intOf]; omega
    · have hd := hno.done (by rw [HN.out]; omega)
      have HD := Lib.hid hd
      clear hd hno
      go_wp2_with fail
      go_ret
      exact ⟨by rw [HD.out]; rfl, rfl⟩

def keyCells : Array Value := (PL.keywords.map fun g => Value.string ⟨g.toArray⟩).toArray
theorem strs_new (w : World) (ss : List (List UInt8)) (t : TypeId) : StrsAt (w.alloc (.cells (ss.map fun g => Value.string ⟨g.toArray⟩).toArray t)) (some ⟨w.heap.size, 0, none⟩) ss := by
  intro _
  refine ⟨w.heap.size, 0, rfl, by simp, fun i x hx => ?_⟩
  have h := cell_of_row (w.alloc (.cells (ss.map fun g => Value.string ⟨g.toArray⟩).toArray t)) w.heap.size i (ss.map fun g => Value.string ⟨g.toArray⟩).toArray t (0, 0) (heap_alloc_new w _)
  rw [Nat.zero_add, h]
  simp [hx]
theorem rsigns_any (w : World) : Calls Tryd.prog 41 #[] w fun e w' => e = .returned (.slice (some ⟨w.heap.size, 0, none⟩) 28 28) ∧ w.alloc (.cells signCells 9) = w' := by
  go_enter Tryd.func41, Tryd.ntmps41
  go_wp2
  go_ret
  exact ⟨rfl, rfl⟩
theorem rkeywords_any (w : World) : Calls Tryd.prog 21 #[] w fun e w' => e = .returned (.slice (some ⟨w.heap.size, 0, none⟩) 13 13) ∧ w.alloc (.cells keyCells 9) = w' := by
  go_enter Tryd.func21, Tryd.ntmps21
  go_wp2
  go_ret
  exact ⟨rfl, rfl⟩
end Go.Proofs.YtgacfcdpgcpjeaaDoor
