/- The reference reads numbers and operators as the parser does. -/
import Derived.Test.YtglaecalbamnkaaGreatDoorKA
namespace Go.Proofs.YtglaecalbamnkaaGreatDoor.PP
open PL
/-- The value of digits. -/
def full : Nat → List UInt8 → Nat
  | v, [] => v
  | v, d :: ds => full (v * 10 + (d - 48).toNat) ds
/-- The same, cut at 2^40. -/
def capped : Nat → List UInt8 → Nat
  | v, [] => v
  | v, d :: ds => capped (min (10 * v + (d - 48).toNat) 1099511627776) ds
theorem full_ge : ∀ (ds : List UInt8) (v : Nat), v ≤ full v ds
  | [], v => Nat.le_refl _
  | d :: ds, v => by
    rw [full]
    exact Nat.le_trans (by omega) (full_ge ds _)
theorem capped_eq : ∀ (ds : List UInt8) (u : Nat), capped (min u 1099511627776) ds = min (full u ds) 1099511627776
  | [], u => rfl
  | d :: ds, u => by
    rw [capped, full, ← capped_eq ds]
    congr 1
    omega
theorem capped_snoc : ∀ (ds : List UInt8) (d : UInt8) (v : Nat), capped v (ds ++ [d]) = min (10 * capped v ds + (d - 48).toNat) 1099511627776
  | [], d, v => rfl
  | x :: ds, d, v => by rw [List.cons_append, capped, capped, capped_snoc ds]
theorem capped_le : ∀ (ds : List UInt8) (v : Nat), v ≤ 1099511627776 → capped v ds ≤ 1099511627776
  | [], v, h => h
  | d :: ds, v, h => by rw [capped]; exact capped_le ds _ (by omega)
theorem full_drop : ∀ (ds : List UInt8), full 0 (ds.dropWhile (· == 48)) = full 0 ds
  | [] => rfl
  | d :: ds => by
    rw [List.dropWhile_cons]
    by_cases h : d = 48
    · subst h
      rw [if_pos (by decide), full_drop ds]
      rfl
    · rw [if_neg (by simpa using h)]
theorem digits_full : ∀ (ds : List UInt8) (high : Int) (v : Nat), (((full v ds : Nat) : Int) ≤ high → digitsVal high (v : Int) ds = ((full v ds : Nat) : Int)) ∧ (high < ((full v ds : Nat) : Int) → high < digitsVal high (v : Int) ds)
  | [], high, v => ⟨fun _ => rfl, fun h => h⟩
  | d :: ds, high, v => by
    have hg := full_ge (d :: ds) v
    rw [digitsVal]
    by_cases hv : (v : Int) ≤ high
    · rw [if_pos hv, full]
      have := digits_full ds high (v * 10 + (d - 48).toNat)
      rw [show ((v * 10 + (d - 48).toNat : Nat) : Int) = (v : Int) * 10 + ((d - 48).toNat : Int) from by simp] at this
      exact this
    · rw [if_neg hv]
      exact ⟨fun h => by omega, fun _ => by omega⟩
/-- The number that the reference reads. -/
theorem numP_capped (E : Env) (σ : St) (low high : Int) (hh : high ≤ 2147483647) (hm : more E σ = true) (hk : (cur E σ).kind = 2) :
    numP E σ low high = if ((capped 0 (cur E σ).text : Nat) : Int) < low ∨ high < ((capped 0 (cur E σ).text : Nat) : Int) then (fail σ (here E σ) 2, 0) else (adv σ, ((capped 0 (cur E σ).text : Nat) : Int)) := by
  have h1 := capped_eq (cur E σ).text 0
  rw [show min 0 1099511627776 = 0 from rfl] at h1
  obtain ⟨h2, h3⟩ := digits_full ((cur E σ).text.dropWhile (· == 48)) high 0
  rw [full_drop] at h2 h3
  unfold numP
  rw [hm, hk]
  simp only [decide_true, Bool.and_self, if_true]
  rw [show ((0 : Nat) : Int) = 0 from rfl] at h2 h3
  generalize digitsVal high 0 (List.dropWhile (fun x => x == 48) (cur E σ).text) = v at *
  generalize full 0 (cur E σ).text = F at *
  rw [h1]
  by_cases hF : (F : Int) ≤ high
  · rw [h2 hF, show min F 1099511627776 = F from by omega]
  · have h4 := h3 (by omega)
    rw [if_pos (.inr h4), if_pos (.inr (by omega))]
theorem opOf_none {t : List UInt8} (h : ∀ i, i < 18 → symbol (i + 6) ≠ t) : opOf t = none := by
  unfold opOf
  rw [List.findSome?_eq_none_iff]
  intro i hi
  rw [if_neg (by simpa using h i (by simpa using hi))]
theorem opOf_some {t : List UInt8} {k : Nat} (hk : k < 18) (h : ∀ i, i < k → symbol (i + 6) ≠ t) (he : symbol (k + 6) = t) : opOf t = some (k + 6) := by
  unfold opOf
  have e : List.range 18 = List.range k ++ (List.range (18 - k)).map (k + ·) := by
    rw [← List.range_add]; congr 1; omega
  rw [e, List.findSome?_append]
  have h1 : (List.range k).findSome? (fun i => if (symbol (i + 6) == t) = true then some (i + 6) else none) = none := by
    rw [List.findSome?_eq_none_iff]
    intro i hi
    rw [if_neg (by simpa using h i (by simpa using hi))]
  rw [h1, Option.none_or]
  obtain ⟨m, hm⟩ : ∃ m, 18 - k = m + 1 := ⟨17 - k, by omega⟩
  rw [hm, List.range_succ_eq_map, List.map_cons, List.findSome?_cons]
  simp [he]
theorem opOf_rng {t : List UInt8} {k : Nat} (h : opOf t = some k) : 6 ≤ k ∧ k ≤ 23 := by
  unfold opOf at h
  obtain ⟨i, hi, h⟩ := List.exists_of_findSome?_eq_some h
  split at h
  · injection h with h
    have : i < 18 := by simpa using hi
    omega
  · cases h
theorem opOf_empty : opOf [] = none := by decide +kernel
/-- The level at which the reference reads, beside the parser's. -/
def Lev (lvl l : Nat) : Prop := ∀ op, 6 ≤ op → op ≤ 23 → (level op < lvl ↔ level op < l)
theorem lev_start : Lev 0 1 := by
  intro op h1 h2
  have : ∀ i : Fin 18, 1 ≤ level (i.val + 6) := by decide +kernel
  have := this ⟨op - 6, by omega⟩
  rw [show op - 6 + 6 = op from by omega] at this
  omega
theorem lev_refl (l : Nat) : Lev l l := fun _ _ _ => Iff.rfl
theorem level_small {op : Nat} (h1 : 6 ≤ op) (h2 : op ≤ 23) : level op ≤ 11 := by
  have : ∀ i : Fin 18, level (i.val + 6) ≤ 11 := by decide +kernel
  have := this ⟨op - 6, by omega⟩
  rwa [show op - 6 + 6 = op from by omega] at this
end Go.Proofs.YtglaecalbamnkaaGreatDoor.PP
