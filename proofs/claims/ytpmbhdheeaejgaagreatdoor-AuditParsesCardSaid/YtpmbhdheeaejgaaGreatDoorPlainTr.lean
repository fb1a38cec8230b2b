/- The text of a trace as plain functions: numbers, words, lines, what the auditor reads back. -/
import Derived.Test.YtpmbhdheeaejgaaGreatDoorPlainAu
import Derived.Lib.ItoaNum
import Derived.Lib.AtoiAll
import Derived.Lib.AtoiAllCases
import Derived.Lib.Split
import Derived.Lib.CountLaws
import Derived.Lib.IndexMore
namespace Go.Proofs.YtpmbhdheeaejgaaGreatDoor.TR
open Go.Lib
open AU (Ev)
abbrev Bytes := List UInt8
/-! Numbers. -/
theorem dig_toNat {u : Nat} (h : u < 10) : (UInt8.ofNat (48 + u)).toNat = 48 + u := by
  rw [UInt8.toNat_ofNat']
  omega
theorem parse_digits : ∀ (u : Nat) (r : Bytes), u < 18446744073709551616 → parseUint10 0 (decDigits u ++ r) = parseUint10 u r := by
  intro u
  induction u using Nat.strongRecOn with
  | _ u ih =>
    intro r hu
    by_cases h : u < 10
    · rw [decDigits, dif_pos h, List.singleton_append, parseUint10]
      simp only [dig_toNat h]
      rw [if_pos (by omega), if_neg (by omega), if_neg (by omega)]
      congr 1
      omega
    · rw [decDigits, dif_neg h, List.append_assoc, ih (u / 10) (by omega) _ (by omega), List.singleton_append, parseUint10]
      have hm : u % 10 < 10 := Nat.mod_lt _ (by omega)
      simp only [dig_toNat hm]
      rw [if_pos (by omega), if_neg (by omega), if_neg (by omega)]
      congr 1
      omega
theorem decDigits_ne (u : Nat) : decDigits u ≠ [] := by
  rw [decDigits]
  split <;> simp
theorem decDigits_mem : ∀ (u : Nat), ∀ b ∈ decDigits u, 48 ≤ b.toNat ∧ b.toNat ≤ 57 := by
  intro u
  induction u using Nat.strongRecOn with
  | _ u ih =>
    intro b hb
    by_cases h : u < 10
    · rw [decDigits, dif_pos h, List.mem_singleton] at hb
      rw [hb, dig_toNat h]
      omega
    · rw [decDigits, dif_neg h, List.mem_append, List.mem_singleton] at hb
      rcases hb with hb | hb
      · exact ih (u / 10) (by omega) b hb
      · have hm : u % 10 < 10 := Nat.mod_lt _ (by omega)
        rw [hb, dig_toNat hm]
        omega
theorem parseMag_digits {u : Nat} (h : u < 18446744073709551616) : parseMag (decDigits u) = .ok u := by
  unfold parseMag
  rw [if_neg (decDigits_ne u)]
  have := parse_digits u [] h
  rw [List.append_nil] at this
  rw [this, parseUint10]
theorem atoi_itoa {n : Int} (h1 : -9223372036854775808 ≤ n) (h2 : n ≤ 9223372036854775807) : atoiAll (itoa n) = .ok n := by
  unfold itoa
  split
  · rename_i hn
    rw [atoiAll_minus, parseMag_digits (by omega)]
    unfold signed
    simp only
    rw [if_neg (by omega)]
    congr 1
    omega
  · rename_i hn
    have hm := parseMag_digits (u := n.toNat) (by omega)
    cases hd : decDigits n.toNat with
    | nil => exact absurd hd (decDigits_ne _)
    | cons c r =>
      have hc := decDigits_mem n.toNat c (by rw [hd]; simp)
      rw [hd] at hm
      unfold atoiAll
      simp only
      rw [if_neg (by omega), hm]
      simp only
      rw [if_neg (by omega), if_neg (by omega), if_neg (by omega)]
      congr 1
      omega
theorem itoa_mem (n : Int) : ∀ b ∈ itoa n, b.toNat = 45 ∨ (48 ≤ b.toNat ∧ b.toNat ≤ 57) := by
  intro b hb
  unfold itoa at hb
  split at hb
  · rcases List.mem_cons.1 hb with rfl | hb
    · exact .inl rfl
    · exact .inr (decDigits_mem _ b hb)
  · exact .inr (decDigits_mem _ b hb)
def numP (s : Bytes) : Option Int := match atoiAll s with
  | .ok n => if itoa n = s then some n else none
  | _ => none
def i64 (n : Int) : Prop := -9223372036854775808 ≤ n ∧ n ≤ 9223372036854775807
theorem numP_itoa {n : Int} (h : i64 n) : numP (itoa n) = some n := by
  unfold numP
  rw [atoi_itoa h.1 h.2]
  simp
theorem numP_some {s : Bytes} {n : Int} (h : numP s = some n) : s = itoa n ∧ i64 n := by
  unfold numP at h
  split at h
  · rename_i v hv
    split at h
    · rename_i he
      injection h with h
      subst h
      exact ⟨he.symm, atoiAll_bounds hv⟩
    · cases h
  · cases h
/-! Parts of a text between separators. -/
def parts (c : UInt8) : Bytes → Bytes → List Bytes
  | cur, [] => [cur]
  | cur, b :: l => if b == c then cur :: parts c [] l else parts c (cur ++ [b]) l
def joinC (c : UInt8) : List Bytes → Bytes
  | [] => []
  | [w] => w
  | w :: ws => w ++ c :: joinC c ws
theorem parts_ne (c : UInt8) : ∀ (l cur : Bytes), parts c cur l ≠ []
  | [], cur => by simp [parts]
  | b :: l, cur => by
    rw [parts]
    split
    · simp
    · exact parts_ne c l _
theorem join_cons {c : UInt8} {w : Bytes} {ws : List Bytes} (h : ws ≠ []) : joinC c (w :: ws) = w ++ c :: joinC c ws := by
  cases ws with
  | nil => exact absurd rfl h
  | cons v vs => rfl
theorem join_parts (c : UInt8) : ∀ (l cur : Bytes), joinC c (parts c cur l) = cur ++ l
  | [], cur => by simp [parts, joinC]
  | b :: l, cur => by
    rw [parts]
    split
    · rename_i h
      rw [join_cons (parts_ne c l []), join_parts c l [], eq_of_beq h]
      simp
    · rw [join_parts c l (cur ++ [b])]
      simp
theorem parts_body {c : UInt8} : ∀ (a r cur : Bytes), (∀ b ∈ a, b ≠ c) → parts c cur (a ++ r) = parts c (cur ++ a) r
  | [], r, cur, _ => by simp
  | b :: a, r, cur, h => by
    have hb : (b == c) = false := by simp; exact h b (by simp)
    rw [List.cons_append, parts, hb]
    simp only [Bool.false_eq_true, if_false]
    rw [parts_body a r (cur ++ [b]) (fun x hx => h x (by simp [hx]))]
    simp
theorem parts_join {c : UInt8} : ∀ (ws : List Bytes), ws ≠ [] → (∀ w ∈ ws, ∀ b ∈ w, b ≠ c) → parts c [] (joinC c ws) = ws
  | [], h, _ => absurd rfl h
  | [w], _, h => by
    have := parts_body (c := c) w [] [] (h w (by simp))
    rw [List.append_nil, List.nil_append] at this
    show parts c [] w = [w]
    rw [this]
    rfl
  | w :: v :: ws, _, h => by
    show parts c [] (w ++ c :: joinC c (v :: ws)) = _
    rw [parts_body w _ [] (h w (by simp)), List.nil_append, parts]
    simp only [beq_self_eq_true, if_true]
    rw [parts_join (v :: ws) (by simp) (fun x hx => h x (by simp [hx]))]
def bts (ws : List ByteArray) : List Bytes := ws.map (·.data.toList)
theorem index_one (c : UInt8) : ∀ l : Bytes, (index l [c] = -1 ∧ ∀ b ∈ l, b ≠ c) ∨ ∃ a r, l = a ++ c :: r ∧ (∀ b ∈ a, b ≠ c) ∧ index l [c] = (a.length : Int)
  | [] => .inl ⟨by simp [index], fun b h => by simp at h⟩
  | b :: l => by
    by_cases h : b = c
    · refine .inr ⟨[], l, by rw [h]; rfl, fun b h => by simp at h, ?_⟩
      unfold index
      rw [if_pos (by simp [List.isPrefixOf, h])]
      rfl
    · have hf : ¬ ([c].isPrefixOf (b :: l) = true) := by simp [List.isPrefixOf]; exact Ne.symm h
      rcases index_one c l with ⟨h1, h2⟩ | ⟨a, r, h1, h2, h3⟩
      · left
        constructor
        · unfold index; rw [if_neg hf, h1]; rfl
        · intro x hx
          rcases List.mem_cons.1 hx with rfl | hx
          · exact h
          · exact h2 x hx
      · right
        refine ⟨b :: a, r, by rw [h1]; rfl, fun x hx => ?_, ?_⟩
        · rcases List.mem_cons.1 hx with rfl | hx
          · exact h
          · exact h2 x hx
        · unfold index; rw [if_neg hf, h3, if_neg (by simp)]; simp
theorem parts_none {c : UInt8} (l cur : Bytes) (h : ∀ b ∈ l, b ≠ c) : parts c cur l = [cur ++ l] := by
  have := parts_body (c := c) l [] cur h
  rw [List.append_nil] at this
  rw [this]
  rfl
theorem split_parts (c : UInt8) : ∀ (n : Nat) (l : Bytes), l.length < n → splitK [c] 0 (count l [c]) l = parts c [] l
  | 0, _, h => by omega
  | n + 1, l, h => by
    rcases index_one c l with ⟨h1, h2⟩ | ⟨a, r, h1, h2, h3⟩
    · rw [count_miss h1, parts_none l [] h2]; rfl
    · have hd : l.drop (a.length + 1) = r := by rw [h1]; simp
      have ht : l.take a.length = a := by rw [h1]; simp
      rw [count_hit (by simp) h3, show 1 + count (l.drop (a.length + [c].length)) [c] = count (l.drop (a.length + 1)) [c] + 1 from by simp; omega, splitK, h3]
      rw [if_neg (by simp)]
      simp only [Int.toNat_natCast, Nat.add_zero, List.length_singleton]
      rw [hd, ht, split_parts c n r (by rw [h1] at h; simp at h; omega)]
      rw [h1, parts_body a (c :: r) [] h2, List.nil_append, parts]
      simp
theorem parts_split (c : UInt8) (s : ByteArray) : bts (splitB ⟨#[c]⟩ 0 (countB s ⟨#[c]⟩) s) = parts c [] s.data.toList := by
  unfold bts
  rw [splitB_data]
  exact split_parts c _ _ (Nat.lt_succ_self _)
theorem split_count (c : UInt8) : ∀ (n : Nat) (l : Bytes), l.length < n → (splitK [c] 0 (count l [c]) l).length = count l [c] + 1
  | 0, _, h => by omega
  | n + 1, l, h => by
    rcases index_one c l with ⟨h1, h2⟩ | ⟨a, r, h1, h2, h3⟩
    · rw [count_miss h1]; rfl
    · have hd : l.drop (a.length + 1) = r := by rw [h1]; simp
      rw [count_hit (by simp) h3, show 1 + count (l.drop (a.length + [c].length)) [c] = count (l.drop (a.length + 1)) [c] + 1 from by simp; omega, splitK, h3]
      rw [if_neg (by simp)]
      simp only [Int.toNat_natCast, Nat.add_zero, List.length_singleton]
      rw [hd, List.length_cons, split_count c n r (by rw [h1] at h; simp at h; omega)]
theorem splitB_count (c : UInt8) (s : ByteArray) : (splitB ⟨#[c]⟩ 0 (countB s ⟨#[c]⟩) s).length = countB s ⟨#[c]⟩ + 1 := by
  have h := split_count c _ s.data.toList (Nat.lt_succ_self _)
  rw [← show (splitB ⟨#[c]⟩ 0 (countB s ⟨#[c]⟩) s).map (·.data.toList) = splitK [c] 0 (count s.data.toList [c]) s.data.toList from splitB_data _ _ _ _, List.length_map] at h
  exact h
/-- Up to the first separator. -/
def cutP (c : UInt8) : Bytes → Bytes → Bytes × Bytes × Bool
  | cur, [] => (cur, [], false)
  | cur, b :: l => if b == c then (cur, l, true) else cutP c (cur ++ [b]) l
theorem cutP_body {c : UInt8} : ∀ (a r cur : Bytes), (∀ b ∈ a, b ≠ c) → cutP c cur (a ++ r) = cutP c (cur ++ a) r
  | [], r, cur, _ => by simp
  | b :: a, r, cur, h => by
    have hb : (b == c) = false := by simp; exact h b (by simp)
    rw [List.cons_append, cutP, hb]
    simp only [Bool.false_eq_true, if_false]
    rw [cutP_body a r (cur ++ [b]) (fun x hx => h x (by simp [hx]))]
    simp
theorem cut_eq (c : UInt8) (l : Bytes) : cut l [c] = cutP c [] l := by
  unfold cut
  rcases index_one c l with ⟨h1, h2⟩ | ⟨a, r, h1, h2, h3⟩
  · rw [h1]
    simp only [show ¬ ((0 : Int) ≤ -1) from by decide, if_false]
    have := cutP_body (c := c) l [] [] h2
    rw [List.append_nil, List.nil_append] at this
    rw [this]
    rfl
  · rw [h3, if_pos (by omega)]
    simp only [Int.toNat_natCast, List.length_singleton]
    rw [h1, cutP_body a (c :: r) [] h2, List.nil_append, cutP]
    simp
end Go.Proofs.YtpmbhdheeaejgaaGreatDoor.TR
