/- The reference's reading of numbers, and that lines are read alike. -/
import Derived.Test.YtgeagpplihecmaaDoorPlainAsm2
namespace Go.Proofs.YtgeagpplihecmaaDoor.AS
open Go.Lib (itoa decDigits nDigits)
def signed (s : Bytes) : Int := if s.head? = some 45 then -(val (digs s) : Int) else val (digs s)
def rnum (s : Bytes) : Option Int :=
  if digs s = [] ∨ 8 < s.length ∨ (digs s).all isDig = false ∨ itoa (signed s) ≠ s then none else some (signed s)
def rreg (s : Bytes) : Option Int := if s.length < 2 ∨ s.head? ≠ some 114 ∨ s.tail.head? = some 45 then none else rnum s.tail
def rrd (k : Nat) (s : Bytes) : Option Int := if k = 3 then rnum s else rreg s
def rrdAll : List Nat → List Bytes → Ins → Option Ins
  | k :: ks, w :: ws, i => (rrd k w).bind fun v => rrdAll ks ws (i.put k v)
  | [], [], i => some i
  | _, _, _ => none
theorem val_fold : ∀ (d : Bytes) (v : Nat), d.foldl (fun v b => v * 10 + (b.toNat - 48)) v = v * 10 ^ d.length + val d
  | [], v => by simp [val]
  | b :: d, v => by
    unfold val
    rw [List.foldl_cons, List.foldl_cons, val_fold d, val_fold d (0 * 10 + _), List.length_cons, Nat.pow_succ]
    simp only [Nat.zero_mul, Nat.zero_add, Nat.add_mul]
    rw [show v * 10 * 10 ^ d.length = v * (10 ^ d.length * 10) from by rw [Nat.mul_assoc, Nat.mul_comm 10]]
    omega
theorem val_cons (b : UInt8) (d : Bytes) : val (b :: d) = (b.toNat - 48) * 10 ^ d.length + val d := by
  have := val_fold d (0 * 10 + (b.toNat - 48))
  unfold val at *
  rw [List.foldl_cons, this]
  simp
theorem val_lt : ∀ (d : Bytes), d.all isDig = true → val d < 10 ^ d.length
  | [], _ => by simp [val]
  | b :: d, h => by
    rw [List.all_cons, Bool.and_eq_true] at h
    have ih := val_lt d h.2
    have hb := h.1
    unfold isDig at hb
    simp only [Bool.and_eq_true, decide_eq_true_iff] at hb
    rw [val_cons, List.length_cons, Nat.pow_succ]
    have h9 : (b.toNat - 48) * 10 ^ d.length ≤ 9 * 10 ^ d.length := Nat.mul_le_mul_right _ (by omega)
    omega
theorem val_ge {b : UInt8} {d : Bytes} (h : isDig b = true) (hb : b ≠ 48) : 10 ^ d.length ≤ val (b :: d) := by
  unfold isDig at h
  simp only [Bool.and_eq_true, decide_eq_true_iff] at h
  have h1 : b.toNat ≠ 48 := fun e => hb (UInt8.toNat_inj.1 (by rw [e]; rfl))
  rw [val_cons]
  have h9 : 1 * 10 ^ d.length ≤ (b.toNat - 48) * 10 ^ d.length := Nat.mul_le_mul_right _ (by omega)
  omega
theorem dec_val : ∀ (n : Nat) (d : Bytes), d.length = n → d ≠ [] → d.all isDig = true → (d.head? = some 48 → d.length = 1) → decDigits (val d) = d
  | 0, d, hn, h0, _, _ => absurd (List.length_eq_zero_iff.1 hn) h0
  | n + 1, d, hn, h0, ha, hh => by
    obtain ⟨a, b, rfl⟩ : ∃ a b, d = a ++ [b] := ⟨d.dropLast, d.getLast h0, (List.dropLast_concat_getLast h0).symm⟩
    rw [List.all_append, Bool.and_eq_true] at ha
    have hb : 48 ≤ b.toNat ∧ b.toNat ≤ 57 := by
      have := ha.2
      simp only [List.all_cons, List.all_nil, Bool.and_true, isDig, Bool.and_eq_true, decide_eq_true_iff] at this
      exact this
    have hof : UInt8.ofNat (48 + (b.toNat - 48)) = b := by
      rw [show 48 + (b.toNat - 48) = b.toNat from by omega]; simp
    rw [val_app]
    by_cases hae : a = []
    · subst hae
      rw [show val [] * 10 + (b.toNat - 48) = b.toNat - 48 from by simp [val], dec_small (by omega), hof]
      rfl
    · have hl : a.length = n := by simpa using hn
      obtain ⟨x, y, rfl⟩ : ∃ x y, a = x :: y := by
        cases a with
        | nil => exact absurd rfl hae
        | cons x y => exact ⟨x, y, rfl⟩
      have hx : x ≠ 48 := fun e => by
        have := hh (by rw [e]; rfl)
        simp at this
      have hxd : isDig x = true := by
        have := ha.1
        rw [List.all_cons, Bool.and_eq_true] at this
        exact this.1
      have hge := val_ge (d := y) hxd hx
      have hp : 1 ≤ 10 ^ y.length := Nat.one_le_pow _ _ (by decide)
      have ih := dec_val n (x :: y) hl hae ha.1 (fun e => by simp at e; exact absurd e hx)
      rw [dec_big (by omega), show (val (x :: y) * 10 + (b.toNat - 48)) / 10 = val (x :: y) from by omega, show (val (x :: y) * 10 + (b.toNat - 48)) % 10 = b.toNat - 48 from by omega, ih, hof]
theorem itoa_signed {s : Bytes} {n : Int} (h : num s = some n) : itoa n = s ∧ n = signed s := by
  unfold num at h
  split at h
  · cases h
  · rename_i hc
    simp only [not_or, not_and] at hc
    obtain ⟨h1, h2, h3, h4⟩ := hc
    injection h with h
    have hn : n = signed s := h.symm
    refine ⟨?_, hn⟩
    have hall : (digs s).all isDig = true := by simpa using h4
    have hd : decDigits (val (digs s)) = digs s := dec_val _ _ rfl h1 hall (fun e => by
      have := (h3 e).1
      have : (digs s).length ≠ 0 := fun e => h1 (List.length_eq_zero_iff.1 e)
      omega)
    rw [hn]
    unfold signed itoa
    by_cases hm : s.head? = some 45
    · rw [if_pos hm]
      have hv : val (digs s) ≠ 0 := by
        intro e
        cases hdd : digs s with
        | nil => exact h1 hdd
        | cons b d =>
          have hb : b ≠ 48 := fun eb => (h3 (by rw [hdd, eb]; rfl)).2 hm
          have hbd : isDig b = true := by rw [hdd, List.all_cons, Bool.and_eq_true] at hall; exact hall.1
          have := val_ge (d := d) hbd hb
          rw [hdd] at e
          have hp : 1 ≤ 10 ^ d.length := Nat.one_le_pow _ _ (by decide)
          omega
      rw [if_pos (by omega), show (-(val (digs s) : Int)).natAbs = val (digs s) from by omega, hd]
      unfold digs
      rw [if_pos hm]
      cases s with
      | nil => simp at hm
      | cons x y => simp at hm; subst hm; rfl
    · rw [if_neg hm, if_neg (by omega), show ((val (digs s) : Int)).toNat = val (digs s) from by omega, hd]
      unfold digs
      rw [if_neg hm]
theorem digs_le (s : Bytes) : (digs s).length ≤ s.length ∧ s.length ≤ (digs s).length + 1 := by
  unfold digs
  split
  · simp; omega
  · omega
theorem num_rnum {s : Bytes} (h : s.length ≤ 8) : rnum s = num s := by
  have hdl := digs_le s
  cases hn : num s with
  | some n =>
    obtain ⟨h1, h2⟩ := itoa_signed hn
    unfold num at hn
    split at hn
    · cases hn
    · rename_i hc
      simp only [not_or] at hc
      unfold rnum
      rw [if_neg, h2]
      rintro (e | e | e | e)
      · exact hc.1 e
      · omega
      · exact hc.2.2.2 e
      · rw [← h2] at e; exact e h1
  | none =>
    unfold rnum
    split
    · rfl
    · rename_i hc
      simp only [not_or, ne_eq, Classical.not_not] at hc
      have hall : (digs s).all isDig = true := by simpa using hc.2.2.1
      have hv := val_lt _ hall
      have hp : 10 ^ (digs s).length ≤ 10 ^ 8 := Nat.pow_le_pow_right (by decide) (by omega)
      have hb : -1000000000 < signed s ∧ signed s < 1000000000 := by unfold signed; split <;> omega
      have := num_itoa hb.1 hb.2
      rw [hc.2.2.2, hn] at this
      cases this
theorem num_big {s : Bytes} {n : Int} (h : 8 < s.length) (hn : num s = some n) : n ≤ -10000000 ∨ 10000000 ≤ n := by
  have hdl := digs_le s
  obtain ⟨_, h2⟩ := itoa_signed hn
  unfold num at hn
  split at hn
  · cases hn
  · rename_i hc
    simp only [not_or, not_and] at hc
    have hall : (digs s).all isDig = true := by simpa using hc.2.2.2
    cases hdd : digs s with
    | nil => exact absurd hdd hc.1
    | cons b d =>
      have hlen : d.length + 1 = (digs s).length := by rw [hdd]; rfl
      have hb : b ≠ 48 := fun eb => by
        have := (hc.2.2.1 (by rw [hdd, eb]; rfl)).1
        omega
      have hbd : isDig b = true := by rw [hdd, List.all_cons, Bool.and_eq_true] at hall; exact hall.1
      have hge := val_ge (d := d) hbd hb
      have hp : 10 ^ 7 ≤ 10 ^ d.length := Nat.pow_le_pow_right (by decide) (by omega)
      rw [← hdd] at hge
      rw [h2]
      unfold signed
      split <;> omega
theorem rd_rrd (k : Nat) (s : Bytes) : rrd k s = rd k s ∨ (rrd k s = none ∧ ∃ n, rd k s = some n ∧ (n ≤ -10000000 ∨ 10000000 ≤ n)) := by
  have key : ∀ s : Bytes, rnum s = num s ∨ (rnum s = none ∧ ∃ n, num s = some n ∧ (n ≤ -10000000 ∨ 10000000 ≤ n)) := fun s => by
    by_cases h : s.length ≤ 8
    · exact .inl (num_rnum h)
    · have hr : rnum s = none := by unfold rnum; rw [if_pos (by right; left; omega)]
      cases hn : num s with
      | none => exact .inl hr
      | some n => exact .inr ⟨hr, n, rfl, num_big (by omega) hn⟩
  unfold rrd rd
  split
  · exact key s
  · unfold rreg reg
    by_cases h1 : s.head? = some 114 ∧ s.tail.head? ≠ some 45
    · rw [if_pos h1]
      by_cases h2 : s.length < 2
      · left
        rw [if_pos (.inl h2)]
        have : s.tail = [] := by
          apply List.length_eq_zero_iff.1
          simp; omega
        rw [this]
        rfl
      · rw [if_neg (by simp only [not_or]; exact ⟨h2, by simpa using h1.1, h1.2⟩)]
        exact key s.tail
    · rw [if_neg h1, if_pos]
      · exact .inl rfl
      · right
        by_cases h3 : s.head? = some 114
        · right
          exact Classical.byContradiction (fun e => h1 ⟨h3, e⟩)
        · exact .inl h3
theorem put_get {i : Ins} {k m : Nat} {v : Int} (hk : k ≤ 3) (hm : m ≤ 3) : (i.put k v).get m = if m = k then v else i.get m := by
  have h1 : k = 0 ∨ k = 1 ∨ k = 2 ∨ k = 3 := by omega
  have h2 : m = 0 ∨ m = 1 ∨ m = 2 ∨ m = 3 := by omega
  rcases h1 with rfl | rfl | rfl | rfl <;> rcases h2 with rfl | rfl | rfl | rfl <;> simp [Ins.put, Ins.get]
theorem put_op (i : Ins) (k : Nat) (v : Int) : (i.put k v).op = i.op := by
  unfold Ins.put
  split
  · rfl
  · split
    · rfl
    · split <;> rfl
theorem rdAll_get {m : Nat} (hm : m ≤ 3) : ∀ (ks : List Nat) (ws : List Bytes) (i j : Ins), (∀ k ∈ ks, k ≤ 3) → m ∉ ks → rdAll ks ws i = some j → j.get m = i.get m
  | [], [], i, j, _, _, h => by simp [rdAll] at h; rw [h]
  | [], _ :: _, _, _, _, _, h => by simp [rdAll] at h
  | _ :: _, [], _, _, _, _, h => by simp [rdAll] at h
  | k :: ks, w :: ws, i, j, hk, hn, h => by
    rw [rdAll] at h
    obtain ⟨v, _, h⟩ := Option.bind_eq_some_iff.1 h
    simp only [List.mem_cons, not_or] at hn
    rw [rdAll_get hm ks ws _ j (fun x hx => hk x (by simp [hx])) hn.2 h, put_get (hk k (by simp)) hm, if_neg hn.1]
theorem far_invalid {j : Ins} {k : Nat} (hk : k ≤ 3) (h : j.get k ≤ -10000000 ∨ 10000000 ≤ j.get k) : valid j = false := by
  cases hv : valid j with
  | false => rfl
  | true =>
    obtain ⟨h1, h2⟩ := valid_in hv hk
    obtain ⟨l1, l2⟩ := lim_small j.op k
    omega
theorem rdAll_rrd : ∀ (ks : List Nat) (ws : List Bytes) (i : Ins), (∀ k ∈ ks, k ≤ 3) → ks.Nodup → rrdAll ks ws i = rdAll ks ws i ∨ (rrdAll ks ws i = none ∧ ∃ j, rdAll ks ws i = some j ∧ valid j = false)
  | [], [], i, _, _ => .inl rfl
  | [], _ :: _, _, _, _ => .inl rfl
  | _ :: _, [], _, _, _ => .inl rfl
  | k :: ks, w :: ws, i, hk, hn => by
    rw [List.nodup_cons] at hn
    rw [rrdAll, rdAll]
    rcases rd_rrd k w with h | ⟨h, n, h2, h3⟩
    · rw [h]
      cases rd k w with
      | none => exact .inl rfl
      | some v => exact rdAll_rrd ks ws (i.put k v) (fun x hx => hk x (by simp [hx])) hn.2
    · rw [h, h2]
      simp only [Option.bind_none, Option.bind_some]
      cases hr : rdAll ks ws (i.put k n) with
      | none => exact .inl rfl
      | some j =>
        have hg := rdAll_get (hk k (by simp)) ks ws _ j (fun x hx => hk x (by simp [hx])) hn.1 hr
        rw [put_get (hk k (by simp)) (hk k (by simp)), if_pos rfl] at hg
        refine .inr ⟨by simp, j, rfl, far_invalid (hk k (by simp)) (by rw [hg]; exact h3)⟩
theorem shape_nodup (op : Nat) : (shape op).Nodup := by
  unfold shape
  repeat' split
  all_goals decide
/-- The reference reads a line alike. -/
theorem rdLine_rrd (w : Bytes) (ws : List Bytes) : rdLine w ws = (opIx names w).bind fun op => if (shape op).length = ws.length then (rrdAll (shape op) ws { Ins.zero with op := op }).bind fun i => if valid i then some i else none else none := by
  unfold rdLine
  cases opIx names w with
  | none => rfl
  | some op =>
    simp only [Option.bind_some]
    split
    · rcases rdAll_rrd (shape op) ws { Ins.zero with op := op } (shape_le op) (shape_nodup op) with h | ⟨h, j, h2, h3⟩
      · rw [h]
      · rw [h, h2]
        simp [h3]
    · rfl
end Go.Proofs.YtgeagpplihecmaaDoor.AS
