/- The assembler as plain functions: the word of an instruction, and the instruction of a word. -/
import Derived.Test.YtgeagpplihecmaaDoorPlainAsm5
namespace Go.Proofs.YtgeagpplihecmaaDoor.AS
def wid (k : Nat) : Nat := if k = 3 then 262144 else 16
def plc (k : Nat) : Nat := if k = 0 then 4194304 else if k = 1 then 262144 else if k = 2 then 16384 else 1
def fld (i : Ins) (k : Nat) : Nat := (i.get k % (wid k : Int)).toNat
/-- The word when j operands are laid. -/
def encAt (i : Ins) (j : Nat) : Nat := ((shape i.op).take j).foldl (fun z k => z + fld i k * plc k) (i.op * 67108864)
def enc (i : Ins) : Nat := encAt i (shape i.op).length
/-- The operand of a word. -/
def getF (w k : Nat) : Int := if k = 3 ∧ 131072 ≤ w / plc k % wid k then ((w / plc k % wid k : Nat) : Int) - 262144 else ((w / plc k % wid k : Nat) : Int)
def decAt (w j : Nat) : Ins := ((shape (w / 67108864)).take j).foldl (fun i k => i.put k (getF w k)) { Ins.zero with op := w / 67108864 }
def decI (w : Nat) : Ins := decAt w (shape (w / 67108864)).length
def dec (w : Nat) : Option Ins := if 30 ≤ w / 67108864 then none else if valid (decI w) = true ∧ enc (decI w) = w then some (decI w) else none
theorem fld_lt (i : Ins) (k : Nat) : fld i k < wid k := by
  unfold fld
  have h : (0 : Int) < (wid k : Int) := by unfold wid; split <;> decide
  have h1 := Int.emod_nonneg (i.get k) (Int.ne_of_gt h)
  have h2 := Int.emod_lt_of_pos (i.get k) h
  omega
theorem shape_cases (op : Nat) : shape op = [] ∨ shape op = [0, 3] ∨ shape op = [0, 1, 3] ∨ shape op = [3] ∨ shape op = [0, 1, 2] := by
  unfold shape
  repeat' split
  all_goals simp
theorem or_add {z f p : Nat} (a b : Nat) (hp : p = 2 ^ a) (hf : f < 2 ^ b) (hz : z % 2 ^ (a + b) = 0) : z ||| f * p = z + f * p := by
  obtain ⟨q, rfl⟩ : ∃ q, z = 2 ^ (a + b) * q := ⟨z / 2 ^ (a + b), by have := Nat.div_add_mod z (2 ^ (a + b)); omega⟩
  have h : f * p < 2 ^ (a + b) := by
    rw [hp, Nat.pow_add, Nat.mul_comm (2 ^ a)]
    exact Nat.mul_lt_mul_of_pos_right hf (Nat.two_pow_pos a)
  rw [← Nat.two_pow_add_eq_or_of_lt h q]
theorem encAt_succ (i : Ins) (j : Nat) (h : j < (shape i.op).length) : encAt i (j + 1) = encAt i j + fld i (shape i.op)[j] * plc (shape i.op)[j] := by
  unfold encAt
  rw [List.take_add_one, List.getElem?_eq_getElem h, Option.toList_some, List.foldl_append]
  rfl
theorem sum_0 {op : Nat} (h : op < 30) : (op * 67108864 % (wid 0 * plc 0) = 0 ∧ op * 67108864 < 4294967296) ∧ 0 ≤ 3 := by
  have p0 : plc 0 = 4194304 := by decide
  have p1 : plc 1 = 262144 := by decide
  have pm : wid 0 * plc 0 = 67108864 := by decide
  rw [pm]
  refine ⟨⟨?_, ?_⟩, ?_⟩ <;> omega
theorem sum_03 {op : Nat} (h : op < 30) : (op * 67108864 % (wid 3 * plc 3) = 0 ∧ op * 67108864 < 4294967296) ∧ 3 ≤ 3 := by
  have p0 : plc 0 = 4194304 := by decide
  have p1 : plc 1 = 262144 := by decide
  have pm : wid 3 * plc 3 = 262144 := by decide
  rw [pm]
  refine ⟨⟨?_, ?_⟩, ?_⟩ <;> omega
theorem sum_13 {op F0 : Nat} (h : op < 30) (f0 : F0 < 16) : ((op * 67108864 + F0 * plc 0) % (wid 3 * plc 3) = 0 ∧ (op * 67108864 + F0 * plc 0) < 4294967296) ∧ 3 ≤ 3 := by
  have p0 : plc 0 = 4194304 := by decide
  have p1 : plc 1 = 262144 := by decide
  have pm : wid 3 * plc 3 = 262144 := by decide
  rw [pm]
  rw [p0]
  refine ⟨⟨?_, ?_⟩, ?_⟩ <;> omega
theorem sum_11 {op F0 : Nat} (h : op < 30) (f0 : F0 < 16) : ((op * 67108864 + F0 * plc 0) % (wid 1 * plc 1) = 0 ∧ (op * 67108864 + F0 * plc 0) < 4294967296) ∧ 1 ≤ 3 := by
  have p0 : plc 0 = 4194304 := by decide
  have p1 : plc 1 = 262144 := by decide
  have pm : wid 1 * plc 1 = 4194304 := by decide
  rw [pm]
  rw [p0]
  refine ⟨⟨?_, ?_⟩, ?_⟩ <;> omega
theorem sum_23 {op F0 F1 : Nat} (h : op < 30) (f0 : F0 < 16) (f1 : F1 < 16) : ((op * 67108864 + F0 * plc 0 + F1 * plc 1) % (wid 3 * plc 3) = 0 ∧ (op * 67108864 + F0 * plc 0 + F1 * plc 1) < 4294967296) ∧ 3 ≤ 3 := by
  have p0 : plc 0 = 4194304 := by decide
  have p1 : plc 1 = 262144 := by decide
  have pm : wid 3 * plc 3 = 262144 := by decide
  rw [pm]
  rw [p0, p1]
  refine ⟨⟨?_, ?_⟩, ?_⟩ <;> omega
theorem sum_22 {op F0 F1 : Nat} (h : op < 30) (f0 : F0 < 16) (f1 : F1 < 16) : ((op * 67108864 + F0 * plc 0 + F1 * plc 1) % (wid 2 * plc 2) = 0 ∧ (op * 67108864 + F0 * plc 0 + F1 * plc 1) < 4294967296) ∧ 2 ≤ 3 := by
  have p0 : plc 0 = 4194304 := by decide
  have p1 : plc 1 = 262144 := by decide
  have pm : wid 2 * plc 2 = 262144 := by decide
  rw [pm]
  rw [p0, p1]
  refine ⟨⟨?_, ?_⟩, ?_⟩ <;> omega
theorem enc_or (i : Ins) (j : Nat) (h : j < (shape i.op).length) (h30 : i.op < 30) : encAt i j ||| fld i (shape i.op)[j] * plc (shape i.op)[j] = encAt i (j + 1) ∧ encAt i j < 4294967296 ∧ fld i (shape i.op)[j] * plc (shape i.op)[j] < 4294967296 := by
  rw [encAt_succ i j h]
  have f0 := fld_lt i 0
  have f1 := fld_lt i 1
  have f2 := fld_lt i 2
  have f3 := fld_lt i 3
  simp only [wid] at f0 f1 f2 f3
  simp only [Nat.reduceEqDiff, if_true, if_false] at f0 f1 f2 f3
  have key : ∃ X k, encAt i j = X ∧ (shape i.op)[j] = k ∧ (X % (wid k * plc k) = 0 ∧ X < 4294967296) ∧ k ≤ 3 := by
    have h12 : ∀ (f : Nat → Nat → Nat) (z a b : Nat), List.foldl f z (List.take 1 [a, b]) = f z a := fun _ _ _ _ => rfl
    have h13 : ∀ (f : Nat → Nat → Nat) (z a b c : Nat), List.foldl f z (List.take 1 [a, b, c]) = f z a := fun _ _ _ _ _ => rfl
    have h23 : ∀ (f : Nat → Nat → Nat) (z a b c : Nat), List.foldl f z (List.take 2 [a, b, c]) = f (f z a) b := fun _ _ _ _ _ => rfl
    unfold encAt
    generalize fld i = F at *
    generalize i.op = op at *
    have hs := shape_cases op
    generalize shape op = s at *
    rcases hs with rfl | rfl | rfl | rfl | rfl
    · exact absurd h (by simp)
    · have : j = 0 ∨ j = 1 := by simp at h; omega
      rcases this with rfl | rfl
      · exact ⟨op * 67108864, 0, rfl, rfl, sum_0 h30⟩
      · exact ⟨op * 67108864 + F 0 * plc 0, 3, h12 _ _ _ _, rfl, sum_13 h30 f0⟩
    · have : j = 0 ∨ j = 1 ∨ j = 2 := by simp at h; omega
      rcases this with rfl | rfl | rfl
      · exact ⟨op * 67108864, 0, rfl, rfl, sum_0 h30⟩
      · exact ⟨op * 67108864 + F 0 * plc 0, 1, h13 _ _ _ _ _, rfl, sum_11 h30 f0⟩
      · exact ⟨op * 67108864 + F 0 * plc 0 + F 1 * plc 1, 3, h23 _ _ _ _ _, rfl, sum_23 h30 f0 f1⟩
    · have : j = 0 := by simp at h; omega
      rcases this with rfl
      exact ⟨op * 67108864, 3, rfl, rfl, sum_03 h30⟩
    · have : j = 0 ∨ j = 1 ∨ j = 2 := by simp at h; omega
      rcases this with rfl | rfl | rfl
      · exact ⟨op * 67108864, 0, rfl, rfl, sum_0 h30⟩
      · exact ⟨op * 67108864 + F 0 * plc 0, 1, h13 _ _ _ _ _, rfl, sum_11 h30 f0⟩
      · exact ⟨op * 67108864 + F 0 * plc 0 + F 1 * plc 1, 2, h23 _ _ _ _ _, rfl, sum_22 h30 f0 f1⟩
  obtain ⟨X, k, hX, hkk, ⟨k1, k2⟩, k3⟩ := key
  rw [hX, hkk]
  have hf := fld_lt i k
  have hor : ∀ a b : Nat, plc k = 2 ^ a → wid k = 2 ^ b → X ||| fld i k * plc k = X + fld i k * plc k := fun a b hp hw =>
    or_add a b hp (by rw [← hw]; exact hf) (by rw [Nat.pow_add, ← hp, ← hw, Nat.mul_comm]; exact k1)
  have hk : k = 0 ∨ k = 1 ∨ k = 2 ∨ k = 3 := by omega
  have hm : fld i k * plc k < 4294967296 := by
    have hp : plc k ≤ 4194304 ∧ wid k ≤ 262144 ∧ (k = 3 → plc k = 1) ∧ (k ≠ 3 → wid k = 16) := by
      rcases hk with rfl | rfl | rfl | rfl <;> decide
    by_cases h3 : k = 3
    · rw [hp.2.2.1 h3]; omega
    · have h1 := hp.2.2.2 h3
      rw [h1] at hf
      have := Nat.mul_le_mul (Nat.le_of_lt hf) hp.1
      omega
  refine ⟨?_, k2, hm⟩
  rcases hk with rfl | rfl | rfl | rfl
  · exact hor 22 4 (by decide) (by decide)
  · exact hor 18 4 (by decide) (by decide)
  · exact hor 14 4 (by decide) (by decide)
  · exact hor 0 18 (by decide) (by decide)
theorem enc_lt (i : Ins) (h30 : i.op < 30) : enc i < 4294967296 := by
  unfold enc encAt
  have f0 := fld_lt i 0
  have f1 := fld_lt i 1
  have f2 := fld_lt i 2
  have f3 := fld_lt i 3
  simp only [wid] at f0 f1 f2 f3
  simp only [Nat.reduceEqDiff, if_true, if_false] at f0 f1 f2 f3
  generalize i.op = op at *
  have hs := shape_cases op
  generalize shape op = s at *
  rcases hs with rfl | rfl | rfl | rfl | rfl <;> simp [plc] <;> omega
theorem fld_int (i : Ins) (k : Nat) : ((fld i k : Nat) : Int) = i.get k % (wid k : Int) := by
  unfold fld
  exact Int.toNat_of_nonneg (Int.emod_nonneg _ (by unfold wid; split <;> decide))
theorem getF_sum {op F0 F1 F2 F3 : Nat} (h0 : F0 < 16) (h1 : F1 < 16) (h2 : F2 < 16) (h3 : F3 < 262144) (h23 : F2 = 0 ∨ F3 = 0) :
    (op * 67108864 + F0 * 4194304 + F1 * 262144 + F2 * 16384 + F3) / 67108864 = op ∧
    getF (op * 67108864 + F0 * 4194304 + F1 * 262144 + F2 * 16384 + F3) 0 = F0 ∧ getF (op * 67108864 + F0 * 4194304 + F1 * 262144 + F2 * 16384 + F3) 1 = F1 ∧
    (F3 = 0 → getF (op * 67108864 + F0 * 4194304 + F1 * 262144 + F2 * 16384 + F3) 2 = F2) ∧
    (F2 = 0 → getF (op * 67108864 + F0 * 4194304 + F1 * 262144 + F2 * 16384 + F3) 3 = if 131072 ≤ F3 then (F3 : Int) - 262144 else F3) := by
  generalize hw : op * 67108864 + F0 * 4194304 + F1 * 262144 + F2 * 16384 + F3 = w
  refine ⟨by omega, ?_, ?_, fun h => ?_, fun h => ?_⟩
  · have : w / 4194304 % 16 = F0 := by omega
    simp [getF, plc, wid, this]
  · have : w / 262144 % 16 = F1 := by omega
    simp [getF, plc, wid, this]
  · have : w / 16384 % 16 = F2 := by omega
    simp [getF, plc, wid, this]
  · have : w % 262144 = F3 := by omega
    simp [getF, plc, wid, this]
theorem dec_enc {i : Ins} (h : valid i = true) : dec (enc i) = some i := by
  have h30 := valid_lt h
  have v0 := valid_in h (k := 0) (by omega)
  have v1 := valid_in h (k := 1) (by omega)
  have v2 := valid_in h (k := 2) (by omega)
  have v3 := valid_in h (k := 3) (by omega)
  have hlo := lim_small i.op 3
  have f0 := fld_lt i 0
  have f1 := fld_lt i 1
  have f2 := fld_lt i 2
  have f3 := fld_lt i 3
  have g0 := fld_int i 0
  have g1 := fld_int i 1
  have g2 := fld_int i 2
  have g3 := fld_int i 3
  rw [show wid 0 = 16 from rfl] at f0 g0
  rw [show wid 1 = 16 from rfl] at f1 g1
  rw [show wid 2 = 16 from rfl] at f2 g2
  rw [show wid 3 = 262144 from rfl] at f3 g3
  have hI : decI (enc i) = i ∧ enc i / 67108864 = i.op := by
    obtain ⟨op, a, b, c, imm⟩ := i
    have s0 : ∀ k : Nat, Ins.get ⟨op, a, b, c, imm⟩ k = if k = 0 then a else if k = 1 then b else if k = 2 then c else imm := fun _ => rfl
    rw [s0] at v0 v1 v2 v3 g0 g1 g2 g3
    simp only [Nat.reduceEqDiff, if_true, if_false] at v0 v1 v2 v3 g0 g1 g2 g3
    have e : ∀ l : List Nat, shape op = l → enc ⟨op, a, b, c, imm⟩ = l.foldl (fun z k => z + fld ⟨op, a, b, c, imm⟩ k * plc k) (op * 67108864) := by
      intro l hl
      unfold enc encAt
      rw [List.take_length]
      show (shape op).foldl _ _ = _
      rw [hl]
    have d : ∀ (l : List Nat) (w : Nat), shape op = l → w / 67108864 = op → decI w = l.foldl (fun i k => i.put k (getF w k)) { Ins.zero with op := op } := by
      intro l w hl hw
      unfold decI decAt
      rw [List.take_length, hw, hl]
    obtain ⟨F0, hF0⟩ : ∃ F, fld ⟨op, a, b, c, imm⟩ 0 = F := ⟨_, rfl⟩
    rw [hF0] at f0 g0
    obtain ⟨F1, hF1⟩ : ∃ F, fld ⟨op, a, b, c, imm⟩ 1 = F := ⟨_, rfl⟩
    rw [hF1] at f1 g1
    obtain ⟨F2, hF2⟩ : ∃ F, fld ⟨op, a, b, c, imm⟩ 2 = F := ⟨_, rfl⟩
    rw [hF2] at f2 g2
    obtain ⟨F3, hF3⟩ : ∃ F, fld ⟨op, a, b, c, imm⟩ 3 = F := ⟨_, rfl⟩
    rw [hF3] at f3 g3
    skip
    unfold limLo limHi at v0 v1 v2 v3
    unfold limLo limHi at hlo
    dsimp only at *
    generalize lo op = l at *
    generalize hi op = hh at *
    have hs := shape_cases op
    have fin : ∀ F0' F1' F2' F3' : Nat, F0' < 16 → F1' < 16 → F2' < 16 → F3' < 262144 → (F2' = 0 ∨ F3' = 0) → enc ⟨op, a, b, c, imm⟩ = op * 67108864 + F0' * 4194304 + F1' * 262144 + F2' * 16384 + F3' →
        ((F0' : Int) = a) → ((F1' : Int) = b) → (F3' = 0 → (F2' : Int) = c) → (F2' = 0 → (if 131072 ≤ F3' then (F3' : Int) - 262144 else F3') = imm) → enc ⟨op, a, b, c, imm⟩ / 67108864 = op ∧ getF (enc ⟨op, a, b, c, imm⟩) 0 = a ∧ getF (enc ⟨op, a, b, c, imm⟩) 1 = b ∧ (F3' = 0 → getF (enc ⟨op, a, b, c, imm⟩) 2 = c) ∧ (F2' = 0 → getF (enc ⟨op, a, b, c, imm⟩) 3 = imm) := by
      intro F0' F1' F2' F3' q0 q1 q2 q3 q23 he k0 k1 k2 k3
      obtain ⟨z, z0, z1, z2, z3⟩ := getF_sum (op := op) q0 q1 q2 q3 q23
      rw [he]
      exact ⟨z, z0.trans k0, z1.trans k1, fun h => (z2 h).trans (k2 h), fun h => (z3 h).trans (k3 h)⟩
    rcases hs with hs | hs | hs | hs | hs <;> simp only [hs] at v0 v1 v2 v3 hlo <;> simp at v0 v1 v2 v3 hlo
    · obtain ⟨z, z0, z1, z2, z3⟩ := fin 0 0 0 0 (by omega) (by omega) (by omega) (by omega) (.inl rfl) (by rw [e _ hs]; simp) (by omega) (by omega) (fun _ => by omega) (fun _ => by simp; omega)
      refine ⟨?_, z⟩
      rw [d _ _ hs z]
      simp [Ins.zero]; omega
    · obtain ⟨z, z0, z1, z2, z3⟩ := fin F0 0 0 F3 (by omega) (by omega) (by omega) (by omega) (.inl rfl) (by rw [e _ hs]; simp only [List.foldl_cons, List.foldl_nil, hF0, hF3, plc, Nat.reduceEqDiff, if_true, if_false]; omega) (by omega) (by omega) (fun _ => by omega) (fun _ => by split <;> omega)
      refine ⟨?_, z⟩
      rw [d _ _ hs z]
      simp [Ins.zero, Ins.put, z0, z3]; omega
    · obtain ⟨z, z0, z1, z2, z3⟩ := fin F0 F1 0 F3 (by omega) (by omega) (by omega) (by omega) (.inl rfl) (by rw [e _ hs]; simp only [List.foldl_cons, List.foldl_nil, hF0, hF1, hF3, plc, Nat.reduceEqDiff, if_true, if_false]; omega) (by omega) (by omega) (fun _ => by omega) (fun _ => by split <;> omega)
      refine ⟨?_, z⟩
      rw [d _ _ hs z]
      simp [Ins.zero, Ins.put, z0, z1, z3]; omega
    · obtain ⟨z, z0, z1, z2, z3⟩ := fin 0 0 0 F3 (by omega) (by omega) (by omega) (by omega) (.inl rfl) (by rw [e _ hs]; simp only [List.foldl_cons, List.foldl_nil, hF3, plc, Nat.reduceEqDiff, if_false]; omega) (by omega) (by omega) (fun _ => by omega) (fun _ => by split <;> omega)
      refine ⟨?_, z⟩
      rw [d _ _ hs z]
      simp [Ins.zero, Ins.put, z3]; omega
    · obtain ⟨z, z0, z1, z2, z3⟩ := fin F0 F1 F2 0 (by omega) (by omega) (by omega) (by omega) (.inr rfl) (by rw [e _ hs]; simp only [List.foldl_cons, List.foldl_nil, hF0, hF1, hF2, plc, Nat.reduceEqDiff, if_true, if_false]; omega) (by omega) (by omega) (fun _ => by omega) (fun h => by simp; omega)
      refine ⟨?_, z⟩
      rw [d _ _ hs z]
      simp [Ins.zero, Ins.put, z0, z1, z2]; omega
  unfold dec
  rw [if_neg (by rw [hI.2]; omega), hI.1, if_pos ⟨h, rfl⟩]
theorem dec_some {w : Nat} {i : Ins} (h : dec w = some i) : valid i = true ∧ enc i = w := by
  unfold dec at h
  split at h
  · cases h
  · split at h
    · rename_i h2
      injection h with h
      rw [← h]; exact h2
    · cases h
end Go.Proofs.YtgeagpplihecmaaDoor.AS
