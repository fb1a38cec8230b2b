/- Merged from PlainPD, PlainPD2, PlainPD3, PlainPD4. -/
import Derived.Test.YtdlbokcndbbgnaaPlainSl
import Derived.Test.YtdlbokcndbbgnaaPlainSl10
import Derived.Test.YtdlbokcndbbgnaaPlainSl5
/- PD2 is optimal: every subtask of a set whose load is at most the number of cores runs within its window, whatever subtasks are left out. -/
namespace Go.Proofs.Ytdlbokcndbbgnaa.PD
/-! Choosing the M highest of a list. -/
section Top
variable {α : Type}
def top (l : List α) (hi : α → α → Bool) (M : Nat) (C : α → Bool) (x : α) : Bool := C x && decide (l.countP (fun y => C y && hi y x) < M)
theorem countP_le_of {l : List α} {p q : α → Bool} (h : ∀ x ∈ l, p x = true → q x = true) : l.countP p ≤ l.countP q :=
  List.countP_mono_left h
theorem top_congr {l : List α} {hi : α → α → Bool} {M : Nat} {C C' : α → Bool} (h : ∀ y ∈ l, C y = C' y) {x : α} (hx : x ∈ l) : top l hi M C x = top l hi M C' x := by
  unfold top
  rw [h x hx]
  congr 2
  exact congrArg (· < M) (List.countP_congr fun z hz => by rw [h z hz])
variable [DecidableEq α]
theorem countP_split {p : α → Bool} {y : α} : ∀ {l : List α}, l.Nodup → y ∈ l → p y = true → l.countP p = l.countP (fun x => p x && decide (x ≠ y)) + 1
  | [], _, h, _ => by simp at h
  | x :: l, hn, hy, hp => by
    rw [List.nodup_cons] at hn
    by_cases hxy : x = y
    · subst hxy
      rw [List.countP_cons_of_pos hp, List.countP_cons_of_neg (by simp)]
      congr 1
      refine List.countP_congr fun z hz => ?_
      have : z ≠ x := fun h => hn.1 (h ▸ hz)
      simp [this]
    · have hy' : y ∈ l := by
        rcases List.mem_cons.1 hy with h | h
        · exact absurd h.symm hxy
        · exact h
      have ih := countP_split (p := p) hn.2 hy' hp
      by_cases hpx : p x = true
      · rw [List.countP_cons_of_pos hpx, List.countP_cons_of_pos (by simp [hpx, hxy]), ih]
      · rw [List.countP_cons_of_neg hpx, List.countP_cons_of_neg (by simp [hpx]), ih]
theorem countP_lt_of {l : List α} (hn : l.Nodup) {p q : α → Bool} {y : α} (h : ∀ x ∈ l, p x = true → q x = true) (hy : y ∈ l) (hq : q y = true) (hp : p y = false) : l.countP p < l.countP q := by
  rw [countP_split hn hy hq]
  refine Nat.lt_succ_of_le (countP_le_of fun x hx hpx => ?_)
  have : x ≠ y := fun e => by rw [e, hp] at hpx; cases hpx
  simp [h x hx hpx, this]
theorem countP_le_one {l : List α} (hn : l.Nodup) {p q : α → Bool} {y : α} (h : ∀ x ∈ l, p x = true → q x = true ∨ x = y) : l.countP p ≤ l.countP q + 1 := by
  by_cases hy : y ∈ l ∧ p y = true
  · rw [countP_split hn hy.1 hy.2]
    refine Nat.succ_le_succ (countP_le_of fun x hx hpx => ?_)
    simp at hpx
    rcases h x hx hpx.1 with h | h
    · exact h
    · exact absurd h hpx.2
  · refine Nat.le_succ_of_le (countP_le_of fun x hx hpx => ?_)
    rcases h x hx hpx with h | h
    · exact h
    · subst h; exact absurd ⟨hx, hpx⟩ hy
theorem swap {l : List α} (hn : l.Nodup) {hi : α → α → Bool} (irr : ∀ x, hi x x = false) (tr : ∀ x y z, hi x y = true → hi y z = true → hi x z = true)
    (tot : ∀ x ∈ l, ∀ y ∈ l, x ≠ y → hi x y = true ∨ hi y x = true) (M : Nat) {C C' : α → Bool} {Y : α} (hY : Y ∈ l) (hCY : C Y = true) (hC'Y : C' Y = false)
    (hsub : ∀ x ∈ l, x ≠ Y → C x = true → C' x = true) (hnew : ∀ x ∈ l, C' x = true → C x = false → hi Y x = true)
    (huniq : ∀ x ∈ l, ∀ y ∈ l, C' x = true → C x = false → C' y = true → C y = false → x = y) :
    (top l hi M C Y = false ∧ ∀ x ∈ l, x ≠ Y → top l hi M C' x = top l hi M C x) ∨
    (top l hi M C Y = true ∧ ((∀ x ∈ l, x ≠ Y → top l hi M C' x = top l hi M C x) ∨
      ∃ Z, Z ∈ l ∧ Z ≠ Y ∧ top l hi M C Z = false ∧ top l hi M C' Z = true ∧ hi Y Z = true ∧ ∀ x ∈ l, x ≠ Y → x ≠ Z → top l hi M C' x = top l hi M C x)) := by
  have asym : ∀ x y, hi x y = true → hi y x = false := fun x y h => by
    cases h2 : hi y x with
    | false => rfl
    | true => have := tr _ _ _ h h2; rw [irr] at this; cases this
  -- those above Y: the same in both
  have hup : ∀ x ∈ l, hi x Y = true → l.countP (fun y => C' y && hi y x) = l.countP (fun y => C y && hi y x) := fun x hx hxY => by
    refine List.countP_congr fun z hz => ?_
    by_cases hzY : z = Y
    · subst hzY; simp [asym _ _ hxY]
    · cases hc : C z with
      | true => simp [hsub z hz hzY hc]
      | false =>
        cases hc' : C' z with
        | false => simp
        | true =>
          have h1 := hnew z hz hc' hc
          have h2 := asym _ _ (tr _ _ _ hxY h1)
          simp [h2]
  have hupt : ∀ x ∈ l, hi x Y = true → x ≠ Y → top l hi M C' x = top l hi M C x := fun x hx hxY hne => by
    unfold top
    rw [hup x hx hxY]
    cases hc : C x with
    | true => rw [hsub x hx hne hc]
    | false =>
      cases hc' : C' x with
      | false => rfl
      | true => have := asym _ _ (hnew x hx hc' hc); rw [this] at hxY; cases hxY
  -- those above Y count below Y
  have hbel : ∀ x, hi Y x = true → l.countP (fun y => C y && hi y Y) ≤ l.countP (fun y => C' y && hi y x) := fun x hYx => by
    refine countP_le_of fun z hz h => ?_
    simp at h
    have hzY : z ≠ Y := fun e => by rw [e, irr] at h; exact absurd h.2 (by simp)
    simp [hsub z hz hzY h.1, tr _ _ _ h.2 hYx]
  have hbel2 : ∀ x, hi Y x = true → l.countP (fun y => C y && hi y Y) < l.countP (fun y => C y && hi y x) := fun x hYx => by
    refine countP_lt_of hn (y := Y) (fun z hz h => ?_) hY (by simp [hCY, hYx]) (by simp [irr])
    simp at h
    simp [h.1, tr _ _ _ h.2 hYx]
  cases ht : top l hi M C Y with
  | false =>
    left
    refine ⟨rfl, fun x hx hne => ?_⟩
    rcases tot x hx Y hY hne with h | h
    · exact hupt x hx h hne
    · have hM : M ≤ l.countP (fun y => C y && hi y Y) := by
        unfold top at ht; rw [hCY] at ht; simp at ht; exact ht
      have h1 := hbel x h
      have h2 := hbel2 x h
      unfold top
      rw [decide_eq_false (by omega), decide_eq_false (by omega)]
      simp
  | true =>
    right
    refine ⟨rfl, ?_⟩
    have hM : l.countP (fun y => C y && hi y Y) < M := by
      unfold top at ht; rw [hCY] at ht; simpa using ht
    -- one that is new below Y
    have hge : ∀ x ∈ l, hi Y x = true → C x = true → l.countP (fun y => C' y && hi y x) ≤ l.countP (fun y => C y && hi y x) ∧ l.countP (fun y => C y && hi y x) ≤ l.countP (fun y => C' y && hi y x) + 1 := fun x hx hYx hCx => by
      have hs : l.countP (fun y => C y && hi y x) = l.countP (fun z => (C z && hi z x) && decide (z ≠ Y)) + 1 := countP_split hn hY (by simp [hCY, hYx])
      constructor
      · rw [hs]
        by_cases hex : ∃ n, n ∈ l ∧ C' n = true ∧ C n = false
        · obtain ⟨n, hn1, hn2, hn3⟩ := hex
          refine countP_le_one hn (y := n) fun z hz h => ?_
          simp at h
          cases hc : C z with
          | true =>
            left
            have : z ≠ Y := fun e => by rw [e, hC'Y] at h; exact absurd h.1 (by simp)
            simp [h.2, this]
          | false => exact .inr (huniq z hz n hn1 h.1 hc hn2 hn3)
        · refine Nat.le_succ_of_le (countP_le_of fun z hz h => ?_)
          simp at h
          cases hc : C z with
          | true =>
            have : z ≠ Y := fun e => by rw [e, hC'Y] at h; exact absurd h.1 (by simp)
            simp [h.2, this]
          | false => exact absurd ⟨z, hz, h.1, hc⟩ hex
      · rw [hs]
        refine Nat.succ_le_succ (countP_le_of fun z hz h => ?_)
        simp at h
        simp [hsub z hz h.2 h.1.1, h.1.2]
    have hkeep : ∀ x ∈ l, x ≠ Y → top l hi M C x = true → top l hi M C' x = true := fun x hx hne h => by
      rcases tot x hx Y hY hne with h1 | h1
      · rw [hupt x hx h1 hne]; exact h
      · unfold top at h ⊢
        simp at h ⊢
        have := (hge x hx h1 h.1).1
        exact ⟨hsub x hx hne h.1, by omega⟩
    by_cases hex : ∃ Z, Z ∈ l ∧ Z ≠ Y ∧ top l hi M C Z = false ∧ top l hi M C' Z = true
    · right
      obtain ⟨Z, z1, z2, z3, z4⟩ := hex
      have hYZ : hi Y Z = true := by
        rcases tot Z z1 Y hY z2 with h | h
        · rw [hupt Z z1 h z2, z3] at z4; cases z4
        · exact h
      have key : ∀ A ∈ l, ∀ B ∈ l, A ≠ Y → B ≠ Y → top l hi M C A = false → top l hi M C' A = true → top l hi M C B = false → top l hi M C' B = true → hi Y A = true → hi Y B = true → hi A B = true → False := fun A hA B hB hAY hBY a1 a2 b1 b2 hYA hYB hAB => by
        unfold top at a1 a2 b1 b2
        simp at a1 a2 b1 b2
        have hAB' : l.countP (fun y => C' y && hi y A) < l.countP (fun y => C' y && hi y B) :=
          countP_lt_of hn (y := A) (fun z hz h => by simp at h; simp [h.1, tr _ _ _ h.2 hAB]) hA (by simp [a2.1, hAB]) (by simp [irr])
        cases hcA : C A with
        | true =>
          have := hge A hA hYA hcA
          have := a1 hcA
          omega
        | false =>
          cases hcB : C B with
          | false =>
            have := huniq A hA B hB a2.1 hcA b2.1 hcB
            subst this
            rw [irr] at hAB; cases hAB
          | true =>
            have h1 := b1 hcB
            have h2 : l.countP (fun y => C y && hi y B) ≤ l.countP (fun y => C' y && hi y B) := by
              rw [countP_split hn hY (p := fun y => C y && hi y B) (by simp [hCY, hYB]), countP_split hn hA (p := fun y => C' y && hi y B) (by simp [a2.1, hAB])]
              refine Nat.succ_le_succ (countP_le_of fun z hz h => ?_)
              simp at h
              have : z ≠ A := fun e => by rw [e, hcA] at h; exact absurd h.1.1 (by simp)
              simp [hsub z hz h.2 h.1.1, h.1.2, this]
            omega
      refine ⟨Z, z1, z2, z3, z4, hYZ, fun x hx hxY hxZ => ?_⟩
      cases hx1 : top l hi M C x with
      | true => exact hkeep x hx hxY hx1
      | false =>
        cases hx2 : top l hi M C' x with
        | false => rfl
        | true =>
          exfalso
          have hYx : hi Y x = true := by
            rcases tot x hx Y hY hxY with h | h
            · rw [hupt x hx h hxY, hx1] at hx2; cases hx2
            · exact h
          rcases tot x hx Z z1 hxZ with h | h
          · exact key x hx Z z1 hxY z2 hx1 hx2 z3 z4 hYx hYZ h
          · exact key Z z1 x hx z2 hxY z3 z4 hx1 hx2 hYZ hYx h
    · left
      intro x hx hne
      cases hx1 : top l hi M C x with
      | true => exact hkeep x hx hne hx1
      | false =>
        cases hx2 : top l hi M C' x with
        | false => rfl
        | true => exact absurd ⟨x, hx, hne, hx1, hx2⟩ hex
end Top
/-- A subtask: its task, the release of its job, its index. -/
structure Sub where
  tk : Nat
  rel : Int
  idx : Int
instance : DecidableEq Sub := fun a b => decidable_of_iff (a.tk = b.tk ∧ a.rel = b.rel ∧ a.idx = b.idx) (by cases a; cases b; simp)
/-- The tasks: costs and periods; the order of the subtasks. -/
structure Sys where
  c : Nat → Int
  p : Nat → Int
  hi : Sub → Sub → Bool
  M : Nat
def Sys.a (S : Sys) (T : Sub) : Int := T.rel * S.c T.tk + (T.idx - 1) * S.p T.tk
def Sys.r (S : Sys) (T : Sub) : Int := S.a T / S.c T.tk
def Sys.d (S : Sys) (T : Sub) : Int := (S.a T + S.p T.tk + S.c T.tk - 1) / S.c T.tk
/-- An earlier subtask of the same task. -/
def Sys.pre (S : Sys) (A T : Sub) : Bool := decide (A.tk = T.tk) && decide (S.a A < S.a T)
def Sys.cand (S : Sys) (τ : List Sub) (D : Sub → Bool) (t : Nat) (T : Sub) : Bool := !D T && decide (S.r T ≤ t) && τ.all fun A => !S.pre A T || D A
def Sys.run (S : Sys) (τ : List Sub) (D : Sub → Bool) (t : Nat) (T : Sub) : Bool := top τ S.hi S.M (S.cand τ D t) T
def Sys.done (S : Sys) (τ : List Sub) : Nat → Sub → Bool
  | 0, _ => false
  | t + 1, T => S.done τ t T || S.run τ (S.done τ t) t T
/-- A set of subtasks that may be. -/
structure Ok (S : Sys) (n : Nat) (τ : List Sub) : Prop where
  nd : τ.Nodup
  tk : ∀ T ∈ τ, T.tk < n
  cp : ∀ T ∈ τ, 1 ≤ S.c T.tk ∧ S.c T.tk ≤ S.p T.tk
  rel : ∀ T ∈ τ, 0 ≤ T.rel
  idx : ∀ T ∈ τ, 1 ≤ T.idx ∧ T.idx ≤ S.c T.tk
  gap : ∀ T ∈ τ, ∀ U ∈ τ, T.tk = U.tk → T.rel = U.rel ∨ T.rel + S.p T.tk ≤ U.rel ∨ U.rel + S.p T.tk ≤ T.rel
  irr : ∀ x, S.hi x x = false
  tr : ∀ x y z, S.hi x y = true → S.hi y z = true → S.hi x z = true
  tot : ∀ x ∈ τ, ∀ y ∈ τ, x ≠ y → S.hi x y = true ∨ S.hi y x = true
  ord : ∀ x ∈ τ, ∀ y ∈ τ, S.d x < S.d y → S.hi x y = true
theorem Ok.sub {S : Sys} {n : Nat} {τ : List Sub} (h : Ok S n τ) {σ : List Sub} (hn : σ.Nodup) (hs : ∀ T ∈ σ, T ∈ τ) : Ok S n σ :=
  ⟨hn, fun T hT => h.tk T (hs T hT), fun T hT => h.cp T (hs T hT), fun T hT => h.rel T (hs T hT), fun T hT => h.idx T (hs T hT),
    fun T hT U hU => h.gap T (hs T hT) U (hs U hU), h.irr, h.tr, fun x hx y hy => h.tot x (hs x hx) y (hs y hy), fun x hx y hy => h.ord x (hs x hx) y (hs y hy)⟩
theorem mul_le_l {a b c : Int} (hc : 0 ≤ c) (h : a ≤ b) : a * c ≤ b * c := Int.mul_le_mul_of_nonneg_right h hc
/-- Subtasks of a task lie apart. -/
theorem Ok.apart {S : Sys} {n : Nat} {τ : List Sub} (h : Ok S n τ) {T U : Sub} (hT : T ∈ τ) (hU : U ∈ τ) (htk : T.tk = U.tk) (hne : T ≠ U) : S.a T + S.p T.tk ≤ S.a U ∨ S.a U + S.p T.tk ≤ S.a T := by
  obtain ⟨c1, c2⟩ := h.cp T hT
  have i1 := h.idx T hT
  have i2 := h.idx U hU
  have key : ∀ A B : Sub, A.tk = T.tk → B.tk = T.tk → 1 ≤ A.idx → A.idx ≤ S.c T.tk → 1 ≤ B.idx → A.rel + S.p T.tk ≤ B.rel → S.a A + S.p T.tk ≤ S.a B := fun A B hA hB h1 h2 h3 h4 => by
    unfold Sys.a
    rw [hA, hB]
    have e1 := mul_le_l (c := S.c T.tk) (by omega) h4
    have e2 : (A.idx - 1) * S.p T.tk ≤ (S.c T.tk - 1) * S.p T.tk := mul_le_l (by omega) (by omega)
    have e3 : 0 * S.p T.tk ≤ (B.idx - 1) * S.p T.tk := mul_le_l (by omega) (by omega)
    rw [Int.add_mul] at e1
    rw [Int.sub_mul (S.c T.tk)] at e2
    rw [Int.mul_comm (S.p T.tk) (S.c T.tk)] at e1
    omega
  have key2 : ∀ A B : Sub, A.tk = T.tk → B.tk = T.tk → A.rel = B.rel → A.idx < B.idx → S.a A + S.p T.tk ≤ S.a B := fun A B hA hB h1 h2 => by
    unfold Sys.a
    rw [hA, hB, h1]
    have e2 : (A.idx - 1 + 1) * S.p T.tk ≤ (B.idx - 1) * S.p T.tk := mul_le_l (by omega) (by omega)
    rw [Int.add_mul] at e2
    omega
  rcases h.gap T hT U hU htk with h1 | h1 | h1
  · rcases Int.lt_trichotomy T.idx U.idx with h2 | h2 | h2
    · exact .inl (key2 T U rfl htk.symm h1 h2)
    · exact absurd (by cases T; cases U; simp_all) hne
    · exact .inr (key2 U T htk.symm rfl h1.symm h2)
  · exact .inl (key T U rfl htk.symm i1.1 i1.2 i2.1 h1)
  · exact .inr (key U T htk.symm rfl i2.1 (by rw [htk]; exact i2.2) i1.1 h1)
/-- The first slot and the deadline, by multiples of the cost. -/
theorem Ok.rd {S : Sys} {n : Nat} {τ : List Sub} (h : Ok S n τ) {T : Sub} (hT : T ∈ τ) : S.r T * S.c T.tk ≤ S.a T ∧ S.a T < S.r T * S.c T.tk + S.c T.tk ∧ S.a T + S.p T.tk ≤ S.d T * S.c T.tk ∧ S.d T * S.c T.tk < S.a T + S.p T.tk + S.c T.tk := by
  obtain ⟨c1, c2⟩ := h.cp T hT
  unfold Sys.r Sys.d
  have e1 := Int.mul_ediv_add_emod (S.a T) (S.c T.tk)
  have e2 := Int.emod_nonneg (S.a T) (b := S.c T.tk) (by omega)
  have e3 := Int.emod_lt_of_pos (S.a T) (b := S.c T.tk) (by omega)
  have f1 := Int.mul_ediv_add_emod (S.a T + S.p T.tk + S.c T.tk - 1) (S.c T.tk)
  have f2 := Int.emod_nonneg (S.a T + S.p T.tk + S.c T.tk - 1) (b := S.c T.tk) (by omega)
  have f3 := Int.emod_lt_of_pos (S.a T + S.p T.tk + S.c T.tk - 1) (b := S.c T.tk) (by omega)
  rw [Int.mul_comm] at e1 f1
  omega
theorem lt_of_mul {a b c : Int} (hc : 0 < c) (h : a * c < b * c) : a < b := Int.lt_of_mul_lt_mul_right h (by omega)
theorem le_of_mul {a b c : Int} (hc : 0 < c) (h : a * c ≤ b * c) : a ≤ b := Int.le_of_mul_le_mul_right h hc
/-- Of two subtasks of a task: first slots and deadlines. -/
theorem Ok.step {S : Sys} {n : Nat} {τ : List Sub} (h : Ok S n τ) {T U : Sub} (hT : T ∈ τ) (hU : U ∈ τ) (hp : S.pre T U = true) : S.a T + S.p T.tk ≤ S.a U ∧ S.r T < S.r U ∧ S.d T < S.d U ∧ S.d T ≤ S.r U + 1 := by
  unfold Sys.pre at hp
  simp at hp
  obtain ⟨htk, hlt⟩ := hp
  obtain ⟨c1, c2⟩ := h.cp T hT
  have hne : T ≠ U := fun e => by rw [e] at hlt; omega
  have ha : S.a T + S.p T.tk ≤ S.a U := by
    rcases h.apart hT hU htk hne with h1 | h1 <;> omega
  obtain ⟨t1, t2, t3, t4⟩ := h.rd hT
  obtain ⟨u1, u2, u3, u4⟩ := h.rd hU
  rw [← htk] at u1 u2 u3 u4
  refine ⟨ha, ?_, ?_, ?_⟩
  · refine lt_of_mul (c := S.c T.tk) (by omega) ?_
    have : (S.r T + 1) * S.c T.tk ≤ S.r U * S.c T.tk → S.r T * S.c T.tk < S.r U * S.c T.tk := fun hh => by rw [Int.add_mul] at hh; omega
    refine this (mul_le_l (by omega) ?_)
    refine Int.le_of_lt_add_one (lt_of_mul (c := S.c T.tk) (by omega) ?_)
    rw [Int.add_mul, Int.add_mul]
    omega
  · refine lt_of_mul (c := S.c T.tk) (by omega) ?_
    have : (S.d T + 1) * S.c T.tk ≤ S.d U * S.c T.tk → S.d T * S.c T.tk < S.d U * S.c T.tk := fun hh => by rw [Int.add_mul] at hh; omega
    refine this (mul_le_l (by omega) ?_)
    refine Int.le_of_lt_add_one (lt_of_mul (c := S.c T.tk) (by omega) ?_)
    rw [Int.add_mul, Int.add_mul]
    omega
  · refine Int.le_of_lt_add_one (lt_of_mul (c := S.c T.tk) (by omega) ?_)
    rw [Int.add_mul, Int.add_mul]
    omega
theorem pre_iff {S : Sys} {A T : Sub} : S.pre A T = true ↔ A.tk = T.tk ∧ S.a A < S.a T := by unfold Sys.pre; simp
theorem cand_iff {S : Sys} {τ : List Sub} {D : Sub → Bool} {t : Nat} {T : Sub} : S.cand τ D t T = true ↔ D T = false ∧ S.r T ≤ t ∧ ∀ A ∈ τ, S.pre A T = true → D A = true := by
  unfold Sys.cand
  simp only [Bool.and_eq_true, Bool.not_eq_true', decide_eq_true_eq, List.all_eq_true, Bool.or_eq_true, and_assoc]
  refine and_congr_right fun _ => and_congr_right fun _ => forall_congr' fun A => forall_congr' fun _ => ?_
  cases S.pre A T <;> simp
theorem done_mono {S : Sys} {τ : List Sub} {t : Nat} {T : Sub} (h : S.done τ t T = true) : ∀ k, S.done τ (t + k) T = true
  | 0 => h
  | k + 1 => by
    show (S.done τ (t + k) T || _) = true
    rw [done_mono h k]; rfl
theorem done_le {S : Sys} {τ : List Sub} {t u : Nat} {T : Sub} (h : S.done τ t T = true) (hle : t ≤ u) : S.done τ u T = true := by
  obtain ⟨k, rfl⟩ := Nat.le.dest hle
  exact done_mono h k
/-- Where a subtask is done, those ahead of it are. -/
theorem done_pre {S : Sys} {τ : List Sub} : ∀ {t : Nat} {T : Sub}, S.done τ t T = true → ∀ A ∈ τ, S.pre A T = true → S.done τ t A = true
  | 0, T, h, A, _, _ => by simp [Sys.done] at h
  | t + 1, T, h, A, hA, hp => by
    simp only [Sys.done, Bool.or_eq_true] at h ⊢
    rcases h with h | h
    · exact .inl (done_pre h A hA hp)
    · unfold Sys.run top at h
      simp at h
      exact .inl ((cand_iff.1 h.1).2.2 A hA hp)
/-- A subtask that is done ran in a slot. -/
theorem done_slot {S : Sys} {τ : List Sub} : ∀ {t : Nat} {T : Sub}, S.done τ t T = true → ∃ s, s < t ∧ S.done τ s T = false ∧ S.run τ (S.done τ s) s T = true
  | 0, T, h => by simp [Sys.done] at h
  | t + 1, T, h => by
    by_cases hd : S.done τ t T = true
    · obtain ⟨s, h1, h2⟩ := done_slot hd
      exact ⟨s, by omega, h2⟩
    · simp only [Sys.done, Bool.or_eq_true] at h
      rcases h with h | h
      · exact absurd h hd
      · exact ⟨t, by omega, by simpa using hd, h⟩
theorem done_r {S : Sys} {τ : List Sub} {t : Nat} {T : Sub} (h : S.done τ t T = true) : S.r T < t := by
  obtain ⟨s, h1, _, h3⟩ := done_slot h
  unfold Sys.run top at h3
  simp at h3
  have := (cand_iff.1 h3.1).2.1
  omega
/-- One subtask taken out. -/
def wo (τ : List Sub) (X : Sub) : List Sub := τ.filter fun T => decide (T ≠ X)
theorem mem_wo {τ : List Sub} {X T : Sub} : T ∈ wo τ X ↔ T ∈ τ ∧ T ≠ X := by unfold wo; simp
/-- Without X, the schedule is ahead by Y. -/
structure Ahead (S : Sys) (τ : List Sub) (X : Sub) (t : Nat) (Y : Sub) : Prop where
  mem : Y ∈ τ
  und : S.done τ t Y = false
  same : ∀ T ∈ τ, T ≠ X → T ≠ Y → S.done (wo τ X) t T = S.done τ t T
  new : Y ≠ X → S.done τ t X = true ∧ S.done (wo τ X) t Y = true ∧ S.hi X Y = true
def Same (S : Sys) (τ : List Sub) (X : Sub) (t : Nat) : Prop := S.done τ t X = true ∧ ∀ T ∈ τ, T ≠ X → S.done (wo τ X) t T = S.done τ t T
theorem top_wo (S : Sys) (τ : List Sub) (X : Sub) (C : Sub → Bool) (T : Sub) (hT : T ≠ X) : top (wo τ X) S.hi S.M C T = top τ S.hi S.M (fun y => C y && decide (y ≠ X)) T := by
  unfold top wo
  rw [List.countP_filter]
  simp only [hT, ne_eq, not_false_eq_true, decide_true, Bool.and_true]
  congr 2
  refine congrArg (· < S.M) (List.countP_congr fun z _ => ?_)
  cases C z <;> cases S.hi z T <;> simp
/-- Nothing differs: nothing will. -/
theorem Same.succ {S : Sys} {τ : List Sub} {X : Sub} {t : Nat} (h : Same S τ X t) : Same S τ X (t + 1) := by
  obtain ⟨h1, h2⟩ := h
  refine ⟨done_mono h1 1, fun T hT hne => ?_⟩
  simp only [Sys.done]
  rw [h2 T hT hne]
  congr 1
  unfold Sys.run
  rw [top_wo _ _ _ _ _ hne]
  have hc : ∀ y ∈ τ, (S.cand (wo τ X) (S.done (wo τ X) t) t y && decide (y ≠ X)) = S.cand τ (S.done τ t) t y := fun y hy => by
    by_cases hyX : y = X
    · subst hyX
      simp only [ne_eq, not_true_eq_false, decide_false, Bool.and_false]
      unfold Sys.cand
      rw [h1]; rfl
    · simp only [hyX, ne_eq, not_false_eq_true, decide_true, Bool.and_true]
      rw [Bool.eq_iff_iff, cand_iff, cand_iff, h2 y hy hyX]
      refine and_congr_right fun _ => and_congr_right fun _ => ?_
      constructor
      · intro k A hA hp
        by_cases hAX : A = X
        · rw [hAX]; exact h1
        · rw [← h2 A hA hAX]; exact k A (mem_wo.2 ⟨hA, hAX⟩) hp
      · intro k A hA hp
        obtain ⟨hA, hAX⟩ := mem_wo.1 hA
        rw [h2 A hA hAX]; exact k A hA hp
  exact top_congr hc hT
theorem Same.le {S : Sys} {τ : List Sub} {X : Sub} {t : Nat} (h : Same S τ X t) : ∀ k, Same S τ X (t + k)
  | 0 => h
  | k + 1 => (h.le k).succ
/-- The schedule without X from one slot to the next. -/
theorem Ahead.succ {S : Sys} {n : Nat} {τ : List Sub} (ok : Ok S n τ) {X Y : Sub} (hX : X ∈ τ) {t : Nat} (h : Ahead S τ X t Y) :
    (S.run τ (S.done τ t) t Y = false ∧ Ahead S τ X (t + 1) Y) ∨
    (S.run τ (S.done τ t) t Y = true ∧ (Same S τ X (t + 1) ∨ ∃ Z, S.hi Y Z = true ∧ S.run τ (S.done τ t) t Z = false ∧ (S.cand τ (S.done τ t) t Z = false → S.pre Y Z = true ∧ S.r Z ≤ t) ∧ Ahead S τ X (t + 1) Z)) := by
  obtain ⟨hY, hu, hs, hnw⟩ := h
  have asym : ∀ x y, S.hi x y = true → S.hi y x = false := fun x y h => by
    cases h2 : S.hi y x with
    | false => rfl
    | true => have := ok.tr _ _ _ h h2; rw [ok.irr] at this; cases this
  -- the two sets of candidates
  have hYC : ∀ T ∈ τ, T ≠ X → T ≠ Y → S.cand τ (S.done τ t) t T = true → S.cand (wo τ X) (S.done (wo τ X) t) t T = true := fun T hT hTX hTY hc => by
    obtain ⟨a1, a2, a3⟩ := cand_iff.1 hc
    refine cand_iff.2 ⟨by rw [hs T hT hTX hTY]; exact a1, a2, fun A hA hp => ?_⟩
    obtain ⟨hA, hAX⟩ := mem_wo.1 hA
    have := a3 A hA hp
    by_cases hAY : A = Y
    · rw [hAY, hu] at this; cases this
    · rw [hs A hA hAX hAY]; exact this
  have hXC : Y ≠ X → S.cand τ (S.done τ t) t X = false := fun hne => by
    unfold Sys.cand; rw [(hnw hne).1]; rfl
  have hYC' : Y ≠ X → S.cand (wo τ X) (S.done (wo τ X) t) t Y = false := fun hne => by
    unfold Sys.cand; rw [(hnw hne).2.1]; rfl
  have hnewpre : ∀ T ∈ τ, T ≠ X → T ≠ Y → S.cand (wo τ X) (S.done (wo τ X) t) t T = true → S.cand τ (S.done τ t) t T = false → S.pre Y T = true ∧ S.r T ≤ t := fun T hT hTX hTY hc' hc => by
    obtain ⟨a1, a2, a3⟩ := cand_iff.1 hc'
    refine ⟨?_, a2⟩
    cases hp : S.pre Y T with
    | true => rfl
    | false =>
      have : S.cand τ (S.done τ t) t T = true := cand_iff.2 ⟨by rw [← hs T hT hTX hTY]; exact a1, a2, fun A hA hpA => by
        have hAY : A ≠ Y := fun e => by rw [e, hp] at hpA; cases hpA
        by_cases hAX : A = X
        · by_cases hYX : Y = X
          · exact absurd (hAX.trans hYX.symm) hAY
          · rw [hAX]; exact (hnw hYX).1
        · rw [← hs A hA hAX hAY]; exact a3 A (mem_wo.2 ⟨hA, hAX⟩) hpA⟩
      rw [this] at hc; cases hc
  by_cases hcY : S.cand τ (S.done τ t) t Y = true
  · -- the swap
    have hsw := swap ok.nd ok.irr ok.tr ok.tot S.M (C := S.cand τ (S.done τ t) t) (C' := fun y => S.cand (wo τ X) (S.done (wo τ X) t) t y && decide (y ≠ X)) (Y := Y) hY hcY
      (by
        by_cases hYX : Y = X
        · simp [hYX]
        · simp [hYC' hYX])
      (fun x hx hxY hc => by
        by_cases hxX : x = X
        · exfalso
          have hYX : Y ≠ X := fun e => hxY (hxX.trans e.symm)
          rw [hxX, hXC hYX] at hc; cases hc
        · simp [hYC x hx hxX hxY hc, hxX])
      (fun x hx hc' hc => by
        simp at hc'
        by_cases hxY : x = Y
        · subst hxY; rw [hcY] at hc; cases hc
        · exact ok.ord Y hY x hx (ok.step hY hx (hnewpre x hx hc'.2 hxY hc'.1 hc).1).2.2.1)
      (fun x hx y hy hx' hxc hy' hyc => by
        simp at hx' hy'
        have hxY : x ≠ Y := fun e => by rw [e, hcY] at hxc; cases hxc
        have hyY : y ≠ Y := fun e => by rw [e, hcY] at hyc; cases hyc
        have px := (hnewpre x hx hx'.2 hxY hx'.1 hxc).1
        have py := (hnewpre y hy hy'.2 hyY hy'.1 hyc).1
        rw [pre_iff] at px py
        by_cases hxy : x = y
        · exact hxy
        · exfalso
          have htk : x.tk = y.tk := by rw [← px.1, ← py.1]
          have h1 := (cand_iff.1 hx'.1)
          have h2 := (cand_iff.1 hy'.1)
          have hp1 : 1 ≤ S.p x.tk := by have := ok.cp x hx; omega
          rcases ok.apart hx hy htk hxy with h | h
          · have := h2.2.2 x (mem_wo.2 ⟨hx, hx'.2⟩) (pre_iff.2 ⟨htk, by omega⟩)
            rw [h1.1] at this; cases this
          · have := h1.2.2 y (mem_wo.2 ⟨hy, hy'.2⟩) (pre_iff.2 ⟨htk.symm, by omega⟩)
            rw [h2.1] at this; cases this)
    have hdone' : ∀ T, T ≠ X → S.done (wo τ X) (t + 1) T = (S.done (wo τ X) t T || top τ S.hi S.M (fun y => S.cand (wo τ X) (S.done (wo τ X) t) t y && decide (y ≠ X)) T) := fun T hTX => by
      simp only [Sys.done, Sys.run]
      rw [top_wo _ _ _ _ _ hTX]
    have hdone : ∀ T, S.done τ (t + 1) T = (S.done τ t T || top τ S.hi S.M (S.cand τ (S.done τ t) t) T) := fun T => rfl
    rcases hsw with ⟨h1, h2⟩ | ⟨h1, h2 | ⟨Z, z1, z2, z3, z4, z5, z6⟩⟩
    · left
      refine ⟨h1, hY, ?_, fun T hT hTX hTY => ?_, fun hYX => ?_⟩
      · rw [hdone, hu, h1]; rfl
      · rw [hdone', hdone, hs T hT hTX hTY, h2 T hT hTY]
        exact hTX
      · obtain ⟨a, b, c⟩ := hnw hYX
        exact ⟨done_mono a 1, done_mono b 1, c⟩
    · right
      refine ⟨h1, .inl ⟨?_, fun T hT hTX => ?_⟩⟩
      · by_cases hYX : Y = X
        · rw [← hYX, hdone, h1]; simp
        · exact done_mono (hnw hYX).1 1
      · by_cases hTY : T = Y
        · subst hTY
          rw [hdone, h1, Bool.or_true]
          exact done_mono (hnw hTX).2.1 1
        · rw [hdone' T hTX, hdone, hs T hT hTX hTY, h2 T hT hTY]
    · right
      have hZX : Z ≠ X := fun e => by
        unfold top at z4
        simp [e] at z4
      have huZ : S.done τ t Z = false := by
        have hc' : S.cand (wo τ X) (S.done (wo τ X) t) t Z = true := by
          unfold top at z4; simp at z4; exact z4.1.1
        rw [← hs Z z1 hZX z2]; exact (cand_iff.1 hc').1
      refine ⟨h1, .inr ⟨Z, z5, z3, fun hc => ?_, z1, ?_, fun T hT hTX hTZ => ?_, fun _ => ⟨?_, ?_, ?_⟩⟩⟩
      · refine hnewpre Z z1 hZX z2 ?_ hc
        unfold top at z4; simp at z4; exact z4.1.1
      · rw [hdone, huZ, z3]; rfl
      · by_cases hTY : T = Y
        · subst hTY
          rw [hdone, h1, Bool.or_true]
          exact done_mono (hnw hTX).2.1 1
        · rw [hdone' T hTX, hdone, hs T hT hTX hTY, z6 T hT hTY hTZ]
      · by_cases hYX : Y = X
        · rw [← hYX, hdone, h1]; simp
        · exact done_mono (hnw hYX).1 1
      · rw [hdone' Z hZX, z4]; simp
      · by_cases hYX : Y = X
        · rw [← hYX]; exact z5
        · exact ok.tr _ _ _ (hnw hYX).2.2 z5
  · -- Y is X, and no candidate
    have hcY' : S.cand τ (S.done τ t) t Y = false := by simpa using hcY
    have hYX : Y = X := by
      refine Classical.byContradiction fun hne => hcY (cand_iff.2 ?_)
      obtain ⟨a1, a2, a3⟩ := hnw hne
      refine ⟨hu, by have := done_r a2; omega, fun A hA hp => ?_⟩
      by_cases hAX : A = X
      · rw [hAX]; exact a1
      · have h1 := done_pre a2 A (mem_wo.2 ⟨hA, hAX⟩) hp
        have hAY : A ≠ Y := fun e => by rw [e] at hp; rw [pre_iff] at hp; omega
        rw [← hs A hA hAX hAY]; exact h1
    subst hYX
    left
    have hrf : S.run τ (S.done τ t) t Y = false := by unfold Sys.run top; rw [hcY']; rfl
    have hcc : ∀ y ∈ τ, (S.cand (wo τ Y) (S.done (wo τ Y) t) t y && decide (y ≠ Y)) = S.cand τ (S.done τ t) t y := fun y hy => by
      by_cases hyY : y = Y
      · subst hyY
        rw [hcY']; simp
      · simp only [hyY, ne_eq, not_false_eq_true, decide_true, Bool.and_true]
        cases hc : S.cand τ (S.done τ t) t y with
        | true => exact hYC y hy hyY hyY hc
        | false =>
          cases hc' : S.cand (wo τ Y) (S.done (wo τ Y) t) t y with
          | false => rfl
          | true =>
            exfalso
            obtain ⟨p1, p2⟩ := hnewpre y hy hyY hyY hc' hc
            refine hcY (cand_iff.2 ⟨hu, ?_, fun A hA hp => ?_⟩)
            · have := (ok.step hY hy p1).2.1; omega
            · have hAY : A ≠ Y := fun e => by rw [e] at hp; rw [pre_iff] at hp; omega
              rw [← hs A hA hAY hAY]
              refine (cand_iff.1 hc').2.2 A (mem_wo.2 ⟨hA, hAY⟩) ?_
              rw [pre_iff] at hp p1 ⊢
              exact ⟨hp.1.trans p1.1, by omega⟩
    refine ⟨hrf, hY, ?_, fun T hT hTX _ => ?_, fun h => absurd rfl h⟩
    · show (S.done τ t Y || S.run τ (S.done τ t) t Y) = false
      rw [hu, hrf]; rfl
    · show (S.done (wo τ Y) t T || S.run (wo τ Y) (S.done (wo τ Y) t) t T) = (S.done τ t T || S.run τ (S.done τ t) t T)
      rw [hs T hT hTX hTX]
      congr 1
      unfold Sys.run
      rw [top_wo _ _ _ _ _ hTX]
      exact top_congr hcc hT
/-- At the start nothing differs but X. -/
theorem Ahead.zero {S : Sys} {τ : List Sub} {X : Sub} (hX : X ∈ τ) : Ahead S τ X 0 X := ⟨hX, rfl, fun _ _ _ _ => rfl, fun h => absurd rfl h⟩
section Tops
variable {α : Type}
/-- The lowest of those that are meant. -/
theorem lowest {hi : α → α → Bool} (tr : ∀ x y z, hi x y = true → hi y z = true → hi x z = true) (C : α → Bool) : ∀ (l : List α), (∀ x ∈ l, ∀ y ∈ l, x ≠ y → hi x y = true ∨ hi y x = true) → (∃ x, x ∈ l ∧ C x = true) → ∃ m, m ∈ l ∧ C m = true ∧ ∀ y ∈ l, C y = true → y ≠ m → hi y m = true
  | [], _, h => by obtain ⟨x, hx, _⟩ := h; simp at hx
  | x :: l, tot, h => by
    by_cases hl : ∃ y, y ∈ l ∧ C y = true
    · obtain ⟨m, m1, m2, m3⟩ := lowest tr C l (fun x hx y hy => tot x (List.mem_cons_of_mem _ hx) y (List.mem_cons_of_mem _ hy)) hl
      by_cases hxm : C x = true ∧ x ≠ m
      · rcases tot x (List.mem_cons_self) m (List.mem_cons_of_mem _ m1) hxm.2 with h1 | h1
        · refine ⟨m, List.mem_cons_of_mem _ m1, m2, fun y hy hc hne => ?_⟩
          rcases List.mem_cons.1 hy with e | e
          · rw [e]; exact h1
          · exact m3 y e hc hne
        · refine ⟨x, List.mem_cons_self, hxm.1, fun y hy hc hne => ?_⟩
          rcases List.mem_cons.1 hy with e | e
          · exact absurd e hne
          · by_cases hym : y = m
            · rw [hym]; exact h1
            · exact tr _ _ _ (m3 y e hc hym) h1
      · refine ⟨m, List.mem_cons_of_mem _ m1, m2, fun y hy hc hne => ?_⟩
        rcases List.mem_cons.1 hy with e | e
        · subst e; exact absurd ⟨hc, hne⟩ hxm
        · exact m3 y e hc hne
    · obtain ⟨y, y1, y2⟩ := h
      rcases List.mem_cons.1 y1 with e | e
      · subst e
        refine ⟨y, List.mem_cons_self, y2, fun z hz hc hne => ?_⟩
        rcases List.mem_cons.1 hz with e | e
        · exact absurd e hne
        · exact absurd ⟨z, e, hc⟩ hl
      · exact absurd ⟨y, e, y2⟩ hl
theorem top_all {l : List α} {hi : α → α → Bool} {M : Nat} {C : α → Bool} (h : l.countP C < M) {x : α} (hc : C x = true) : top l hi M C x = true := by
  unfold top
  have : l.countP (fun y => C y && hi y x) ≤ l.countP C := countP_le_of fun y _ h => by simp at h; exact h.1
  simp [hc]; omega
variable [DecidableEq α]
theorem top_full {l : List α} (hn : l.Nodup) {hi : α → α → Bool} (irr : ∀ x, hi x x = false) (tr : ∀ x y z, hi x y = true → hi y z = true → hi x z = true)
    (tot : ∀ x ∈ l, ∀ y ∈ l, x ≠ y → hi x y = true ∨ hi y x = true) (M : Nat) : ∀ (k : Nat) (C : α → Bool), l.countP C = k → M ≤ k → M ≤ l.countP (top l hi M C)
  | 0, C, h, hM => by omega
  | k + 1, C, h, hM => by
    have hex : ∃ x, x ∈ l ∧ C x = true := by
      refine Classical.byContradiction fun hne => ?_
      have : l.countP C = 0 := List.countP_eq_zero.2 fun x hx hc => hne ⟨x, hx, hc⟩
      omega
    obtain ⟨m, m1, m2, m3⟩ := lowest tr C l tot hex
    have hs := countP_split hn m1 m2
    have asym : ∀ x y, hi x y = true → hi y x = false := fun x y h => by
      cases h2 : hi y x with
      | false => rfl
      | true => have := tr _ _ _ h h2; rw [irr] at this; cases this
    by_cases hk : M ≤ k
    · have ih := top_full hn irr tr tot M k (fun x => C x && decide (x ≠ m)) (by omega) hk
      refine Nat.le_trans ih (countP_le_of fun x hx ht => ?_)
      unfold top at ht ⊢
      simp only [Bool.and_eq_true, decide_eq_true_eq] at ht ⊢
      obtain ⟨⟨t1, t2⟩, t3⟩ := ht
      refine ⟨t1, ?_⟩
      have : l.countP (fun y => C y && hi y x) = l.countP (fun y => (C y && decide (y ≠ m)) && hi y x) := List.countP_congr fun z hz => by
        by_cases hzm : z = m
        · subst hzm
          simp [asym _ _ (m3 x hx t1 t2)]
        · simp [hzm]
      rw [this]; exact t3
    · refine Nat.le_trans (Nat.le_of_eq (show M = l.countP C by omega)) (countP_le_of fun x hx hc => ?_)
      unfold top
      have : l.countP (fun y => C y && hi y x) < l.countP C := countP_lt_of hn (y := x) (fun y _ h => by simp at h; exact h.1) hx hc (by simp [irr])
      simp [hc]; omega
end Tops
/-! Sums. -/
def sumL (f : Sub → Int) : List Sub → Int
  | [] => 0
  | T :: l => f T + sumL f l
theorem sumL_congr {f g : Sub → Int} : ∀ {l : List Sub}, (∀ T ∈ l, f T = g T) → sumL f l = sumL g l
  | [], _ => rfl
  | T :: l, h => by
    simp only [sumL]
    rw [h T List.mem_cons_self, sumL_congr fun U hU => h U (List.mem_cons_of_mem _ hU)]
theorem sumL_zero {f : Sub → Int} : ∀ {l : List Sub}, (∀ T ∈ l, f T = 0) → sumL f l = 0
  | [], _ => rfl
  | T :: l, h => by
    simp only [sumL]
    rw [h T List.mem_cons_self, sumL_zero fun U hU => h U (List.mem_cons_of_mem _ hU)]; rfl
theorem sumL_add {f g : Sub → Int} : ∀ {l : List Sub}, sumL (fun T => f T + g T) l = sumL f l + sumL g l
  | [] => rfl
  | T :: l => by simp only [sumL]; rw [sumL_add]; omega
theorem sumL_sub {f g : Sub → Int} : ∀ {l : List Sub}, sumL (fun T => f T - g T) l = sumL f l - sumL g l
  | [] => rfl
  | T :: l => by simp only [sumL]; rw [sumL_sub]; omega
theorem sumL_nonneg {f : Sub → Int} : ∀ {l : List Sub}, (∀ T ∈ l, 0 ≤ f T) → 0 ≤ sumL f l
  | [], _ => Int.le_refl _
  | T :: l, h => by
    simp only [sumL]
    have := h T List.mem_cons_self
    have := sumL_nonneg fun U hU => h U (List.mem_cons_of_mem _ hU)
    omega
theorem wo_cons_self {l : List Sub} {T : Sub} (h : T ∉ l) : wo (T :: l) T = l := by
  unfold wo
  rw [List.filter_cons_of_neg (by simp)]
  exact List.filter_eq_self.2 fun U hU => by
    have : U ≠ T := fun e => h (e ▸ hU)
    simp [this]
theorem sumL_wo {f : Sub → Int} {T : Sub} : ∀ {l : List Sub}, l.Nodup → T ∈ l → sumL f l = f T + sumL f (wo l T)
  | [], _, h => by simp at h
  | U :: l, hn, h => by
    rw [List.nodup_cons] at hn
    by_cases hUT : U = T
    · subst hUT
      rw [wo_cons_self hn.1]; rfl
    · have hT : T ∈ l := by
        rcases List.mem_cons.1 h with e | e
        · exact absurd e.symm hUT
        · exact e
      have ih := sumL_wo (f := f) hn.2 hT
      have : wo (U :: l) T = U :: wo l T := by unfold wo; rw [List.filter_cons_of_pos (by simp [hUT])]
      rw [this]
      simp only [sumL]
      rw [ih]; omega
theorem nodup_wo {l : List Sub} {T : Sub} (h : l.Nodup) : (wo l T).Nodup := h.filter _
theorem sumL_single {f : Sub → Int} {T : Sub} {l : List Sub} (hn : l.Nodup) (hT : T ∈ l) (h : ∀ U ∈ l, U ≠ T → f U = 0) : sumL f l = f T := by
  rw [sumL_wo hn hT, sumL_zero fun U hU => h U (mem_wo.1 hU).1 (mem_wo.1 hU).2]; omega
def sumN (f : Nat → Int) : Nat → Int
  | 0 => 0
  | n + 1 => sumN f n + f n
theorem sumN_le {f g : Nat → Int} : ∀ {n : Nat}, (∀ i, i < n → f i ≤ g i) → sumN f n ≤ sumN g n
  | 0, _ => Int.le_refl _
  | n + 1, h => by
    simp only [sumN]
    have := h n (Nat.lt_succ_self n)
    have := sumN_le (n := n) fun i hi => h i (Nat.lt_succ_of_lt hi)
    omega
theorem sumN_congr {f g : Nat → Int} {n : Nat} (h : ∀ i, i < n → f i = g i) : sumN f n = sumN g n :=
  Int.le_antisymm (sumN_le fun i hi => Int.le_of_eq (h i hi)) (sumN_le fun i hi => Int.le_of_eq (h i hi).symm)
theorem sumN_add {f g : Nat → Int} : ∀ {n : Nat}, sumN (fun i => f i + g i) n = sumN f n + sumN g n
  | 0 => rfl
  | n + 1 => by simp only [sumN]; rw [sumN_add]; omega
theorem sumN_sub {f g : Nat → Int} : ∀ {n : Nat}, sumN (fun i => f i - g i) n = sumN f n - sumN g n
  | 0 => rfl
  | n + 1 => by simp only [sumN]; rw [sumN_sub]; omega
theorem sumN_mul {f : Nat → Int} {k : Int} : ∀ {n : Nat}, sumN (fun i => f i * k) n = sumN f n * k
  | 0 => by simp [sumN]
  | n + 1 => by simp only [sumN]; rw [sumN_mul, Int.add_mul]
/-- Exactly one place counts. -/
theorem sumN_one {f : Nat → Int} {j : Nat} : ∀ {n : Nat}, j < n → (∀ i, i ≠ j → f i = 0) → sumN f n = f j
  | 0, h, _ => by omega
  | n + 1, h, hz => by
    simp only [sumN]
    by_cases hj : j = n
    · subst hj
      have : sumN f j = sumN (fun _ => 0) j := sumN_congr fun i hi => hz i (by omega)
      rw [this]
      have : ∀ m, sumN (fun _ => 0) m = 0 := fun m => by induction m with
        | zero => rfl
        | succ m ih => simp [sumN, ih]
      rw [this]; omega
    · rw [sumN_one (n := n) (by omega) hz, hz n (fun e => hj e.symm)]; omega
/-- Tasks by tasks. -/
theorem sumN_sumL {f : Sub → Int} {n : Nat} : ∀ {l : List Sub}, (∀ T ∈ l, T.tk < n) → sumN (fun i => sumL (fun T => if T.tk = i then f T else 0) l) n = sumL f l
  | [], _ => by
    simp only [sumL]
    have : ∀ m, sumN (fun _ => 0) m = 0 := fun m => by induction m with
        | zero => rfl
        | succ m ih => simp [sumN, ih]
    exact this n
  | T :: l, h => by
    simp only [sumL]
    rw [sumN_add, sumN_sumL fun U hU => h U (List.mem_cons_of_mem _ hU)]
    congr 1
    rw [sumN_one (j := T.tk) (h T List.mem_cons_self) (fun i hi => by rw [if_neg (fun e => hi e.symm)])]
    rw [if_pos rfl]
theorem countP_sumL (q : Sub → Bool) : ∀ l : List Sub, ((l.countP q : Nat) : Int) = sumL (fun T => if q T then 1 else 0) l
  | [] => rfl
  | T :: l => by
    simp only [sumL]
    rw [← countP_sumL q l]
    by_cases h : q T = true
    · rw [List.countP_cons_of_pos h, if_pos h]; omega
    · rw [List.countP_cons_of_neg h, if_neg h]; omega
/-! What a subtask receives in the fluid schedule. -/
def Sys.fl (S : Sys) (T : Sub) (t : Int) : Int := max 0 (min (S.p T.tk) (t * S.c T.tk - S.a T))
def Sys.df (S : Sys) (T : Sub) (u : Int) : Int := S.fl T (u + 1) - S.fl T u
theorem Ok.df_pos {S : Sys} {n : Nat} {τ : List Sub} (h : Ok S n τ) {T : Sub} (hT : T ∈ τ) (u : Int) : 0 ≤ S.df T u ∧ (S.df T u ≠ 0 ↔ S.r T ≤ u ∧ u < S.d T) := by
  obtain ⟨c1, c2⟩ := h.cp T hT
  obtain ⟨t1, t2, t3, t4⟩ := h.rd hT
  unfold Sys.df Sys.fl
  rw [Int.add_mul, Int.one_mul]
  have e1 : S.r T ≤ u ↔ S.a T < u * S.c T.tk + S.c T.tk := by
    constructor
    · intro k
      have := mul_le_l (c := S.c T.tk) (by omega) k
      omega
    · intro k
      refine Int.le_of_lt_add_one (lt_of_mul (c := S.c T.tk) (by omega) ?_)
      rw [Int.add_mul]; omega
  have e2 : u < S.d T ↔ u * S.c T.tk < S.a T + S.p T.tk := by
    constructor
    · intro k
      have := mul_le_l (c := S.c T.tk) (by omega) (show u + 1 ≤ S.d T by omega)
      rw [Int.add_mul] at this
      omega
    · intro k
      exact lt_of_mul (c := S.c T.tk) (by omega) (by omega)
  rw [e1, e2]
  omega
/-- All that a task receives in a slot. -/
def Sys.df1 (S : Sys) (i : Nat) (u : Int) (T : Sub) : Int := if T.tk = i then S.df T u else 0
def Sys.dF (S : Sys) (τ : List Sub) (i : Nat) (u : Int) : Int := sumL (S.df1 i u) τ
theorem Ok.df1_pos {S : Sys} {n : Nat} {τ : List Sub} (h : Ok S n τ) {i : Nat} {u : Int} {T : Sub} (hT : T ∈ τ) : 0 ≤ S.df1 i u T ∧ (S.df1 i u T ≠ 0 ↔ T.tk = i ∧ S.r T ≤ u ∧ u < S.d T) := by
  unfold Sys.df1
  obtain ⟨h1, h2⟩ := h.df_pos hT u
  by_cases hi : T.tk = i
  · rw [if_pos hi, h2]; exact ⟨h1, by simp [hi]⟩
  · rw [if_neg hi]; simp [hi]
theorem Ok.dF_nonneg {S : Sys} {n : Nat} {τ : List Sub} (h : Ok S n τ) (i : Nat) (u : Int) : 0 ≤ S.dF τ i u := sumL_nonneg fun _ hT => (h.df1_pos hT).1
theorem Ok.dF_zero {S : Sys} {n : Nat} {τ : List Sub} (h : Ok S n τ) {i : Nat} {u : Int} (hz : ∀ T ∈ τ, T.tk = i → S.r T ≤ u → S.d T ≤ u) : S.dF τ i u = 0 := by
  refine sumL_zero fun T hT => ?_
  refine Classical.byContradiction fun hne => ?_
  obtain ⟨a, b, c⟩ := (h.df1_pos hT).2.1 hne
  have := hz T hT a b
  omega
theorem Ok.dF_ex {S : Sys} {n : Nat} {τ : List Sub} (h : Ok S n τ) {i : Nat} {u : Int} (hz : S.dF τ i u ≠ 0) : ∃ T, T ∈ τ ∧ T.tk = i ∧ S.r T ≤ u ∧ u < S.d T := by
  refine Classical.byContradiction fun hne => hz (h.dF_zero fun T hT hi hr => ?_)
  exact Int.not_lt.1 fun hd => hne ⟨T, hT, hi, hr, hd⟩
/-- A task receives no more than its share. -/
theorem Ok.dF_le {S : Sys} {n : Nat} {τ : List Sub} (h : Ok S n τ) {i : Nat} {u : Int} (hi : 1 ≤ S.c i) : S.dF τ i u ≤ S.c i := by
  by_cases hz : S.dF τ i u = 0
  · omega
  obtain ⟨T, t1, t2, t3, t4⟩ := h.dF_ex hz
  have hT1 : S.df T u ≤ S.c i := by
    have := h.cp T t1
    rw [t2] at this
    unfold Sys.df Sys.fl
    rw [t2, Int.add_mul, Int.one_mul]
    omega
  by_cases hw : ∀ U ∈ τ, U ≠ T → S.df1 i u U = 0
  · unfold Sys.dF
    rw [sumL_single h.nd t1 hw]
    unfold Sys.df1
    rw [if_pos t2]; exact hT1
  · have hw' : ∃ U, U ∈ τ ∧ U ≠ T ∧ S.df1 i u U ≠ 0 := by
      refine Classical.byContradiction fun hne => hw fun U hU hUT => ?_
      exact Classical.byContradiction fun h0 => hne ⟨U, hU, hUT, h0⟩
    obtain ⟨U, u1, u2, u3⟩ := hw'
    obtain ⟨v1, v2, v3⟩ := (h.df1_pos u1).2.1 u3
    -- two that overlap in the slot
    have key : ∀ A B : Sub, A ∈ τ → B ∈ τ → A.tk = i → B.tk = i → S.r A ≤ u → u < S.d A → S.r B ≤ u → u < S.d B → S.a A + S.p i ≤ S.a B → S.dF τ i u ≤ S.c i := fun A B hA hB a1 b1 a2 a3 b2 b3 hAB => by
      have hp := h.cp A hA
      rw [a1] at hp
      have hpre : S.pre A B = true := pre_iff.2 ⟨a1.trans b1.symm, by omega⟩
      obtain ⟨s1, s2, s3, s4⟩ := h.step hA hB hpre
      have hAB' : B ≠ A := fun e => by rw [e] at s2; omega
      have hoth : ∀ V ∈ wo (wo τ A) B, S.df1 i u V = 0 := fun V hV => by
        obtain ⟨hV, hVB⟩ := mem_wo.1 hV
        obtain ⟨hV, hVA⟩ := mem_wo.1 hV
        refine Classical.byContradiction fun hne => ?_
        obtain ⟨w1, w2, w3⟩ := (h.df1_pos hV).2.1 hne
        have q1 := h.apart hV hA (w1.trans a1.symm) hVA
        have q2 := h.apart hV hB (w1.trans b1.symm) hVB
        rw [w1] at q1 q2
        have f1 : ∀ x y : Sub, x ∈ τ → y ∈ τ → x.tk = i → y.tk = i → S.a x + S.p i ≤ S.a y → S.r x < S.r y ∧ S.d x ≤ S.r y + 1 := fun x y hx hy ex ey he => by
          obtain ⟨_, k1, _, k2⟩ := h.step hx hy (pre_iff.2 ⟨ex.trans ey.symm, by omega⟩)
          exact ⟨k1, k2⟩
        have g0 := f1 A B hA hB a1 b1 hAB
        rcases q1 with q1 | q1
        · have := f1 V A hV hA w1 a1 q1; omega
        · have g1 := f1 A V hA hV a1 w1 q1
          rcases q2 with q2 | q2
          · have := f1 V B hV hB w1 b1 q2; omega
          · have := f1 B V hB hV b1 w1 q2; omega
      unfold Sys.dF
      rw [sumL_wo h.nd hA, sumL_wo (nodup_wo h.nd) (mem_wo.2 ⟨hB, hAB'⟩), sumL_zero hoth]
      unfold Sys.df1
      rw [if_pos a1, if_pos b1]
      unfold Sys.df Sys.fl
      rw [a1, b1, Int.add_mul, Int.one_mul]
      omega
    have hp := h.apart t1 u1 (t2.trans v1.symm) (fun e => u2 e.symm)
    rw [t2] at hp
    rcases hp with hp | hp
    · exact key T U t1 u1 t2 v1 t3 t4 v2 v3 hp
    · exact key U T u1 t1 v1 t2 v2 v3 t3 t4 hp
/-- The b bit. -/
def Sys.b (S : Sys) (T : Sub) : Prop := S.a T + S.p T.tk < S.d T * S.c T.tk
/-- The end of a group. -/
def gend (c p m : Int) : Int := (m * p + (p - c) - 1) / (p - c)
theorem gend_iff {c p m : Int} (h : c < p) (x : Int) : gend c p m ≤ x ↔ m * p ≤ x * (p - c) := by
  unfold gend
  have e1 := Int.mul_ediv_add_emod (m * p + (p - c) - 1) (p - c)
  have e2 := Int.emod_nonneg (m * p + (p - c) - 1) (b := p - c) (by omega)
  have e3 := Int.emod_lt_of_pos (m * p + (p - c) - 1) (b := p - c) (by omega)
  rw [Int.mul_comm] at e1
  generalize (m * p + (p - c) - 1) / (p - c) = g at *
  constructor
  · intro k
    have := mul_le_l (c := p - c) (by omega) k
    omega
  · intro k
    refine Int.le_of_lt_add_one (lt_of_mul (c := p - c) (by omega) ?_)
    rw [Int.add_mul]; omega
/-- Priorities as PD2 has them, and group deadlines. -/
structure Pri (S : Sys) (τ : List Sub) (g : Sub → Int) : Prop where
  pri : ∀ x ∈ τ, ∀ y ∈ τ, S.hi x y = true → S.d x = S.d y → S.b y → S.b x ∧ g y ≤ g x
  light : ∀ x ∈ τ, 2 * S.c x.tk < S.p x.tk → g x = 0
  heavy : ∀ x ∈ τ, S.c x.tk < S.p x.tk → S.p x.tk ≤ 2 * S.c x.tk → ∃ m, 1 ≤ m ∧ m ≤ S.p x.tk - S.c x.tk ∧ g x = x.rel + gend (S.c x.tk) (S.p x.tk) m ∧ S.d x ≤ g x ∧ ∀ k, 1 ≤ k → k < m → x.rel + gend (S.c x.tk) (S.p x.tk) k < S.d x
theorem Pri.sub {S : Sys} {τ : List Sub} {g : Sub → Int} (h : Pri S τ g) {σ : List Sub} (hs : ∀ T ∈ σ, T ∈ τ) : Pri S σ g :=
  ⟨fun x hx y hy => h.pri x (hs x hx) y (hs y hy), fun x hx => h.light x (hs x hx), fun x hx => h.heavy x (hs x hx)⟩
theorem a_eq (S : Sys) (T : Sub) : S.a T + S.p T.tk = T.rel * S.c T.tk + T.idx * S.p T.tk := by
  unfold Sys.a
  rw [Int.sub_mul]; omega
/-- A subtask with the b bit is not the last one of its job: its deadline lies ahead of the job's. -/
theorem Ok.b_idx {S : Sys} {n : Nat} {τ : List Sub} (h : Ok S n τ) {T : Sub} (hT : T ∈ τ) (hb : S.b T) : S.c T.tk < S.p T.tk ∧ S.d T + 1 ≤ T.rel + S.p T.tk := by
  obtain ⟨c1, c2⟩ := h.cp T hT
  obtain ⟨i1, i2⟩ := h.idx T hT
  obtain ⟨_, _, t3, t4⟩ := h.rd hT
  unfold Sys.b at hb
  have ha := a_eq S T
  have hne : T.idx ≠ S.c T.tk := fun e => by
    have h1 : S.a T + S.p T.tk = (T.rel + S.p T.tk) * S.c T.tk := by rw [ha, e, Int.add_mul, Int.mul_comm (S.c T.tk)]
    rw [h1] at hb t4
    have h2 := lt_of_mul (c := S.c T.tk) (by omega) hb
    have h3 := mul_le_l (c := S.c T.tk) (by omega) (show T.rel + S.p T.tk + 1 ≤ S.d T by omega)
    rw [Int.add_mul (T.rel + S.p T.tk)] at h3
    omega
  have hcp : S.c T.tk ≠ S.p T.tk := fun e => by
    have h1 : S.a T + S.p T.tk = (T.rel + T.idx) * S.c T.tk := by rw [ha, ← e, Int.add_mul]
    rw [h1] at hb t4
    have h2 := lt_of_mul (c := S.c T.tk) (by omega) hb
    have h3 := mul_le_l (c := S.c T.tk) (by omega) (show T.rel + T.idx + 1 ≤ S.d T by omega)
    rw [Int.add_mul (T.rel + T.idx)] at h3
    omega
  refine ⟨by omega, ?_⟩
  refine Int.le_of_lt_add_one (lt_of_mul (c := S.c T.tk) (by omega) ?_)
  have h4 : (T.idx + 1) * S.p T.tk ≤ S.c T.tk * S.p T.tk := mul_le_l (by omega) (by omega)
  rw [Int.add_mul] at h4
  rw [Int.add_mul, Int.add_mul, Int.add_mul, Int.mul_comm (S.p T.tk)]
  omega
/-- The end of a job lies behind its subtasks' deadlines. -/
theorem Ok.d_le {S : Sys} {n : Nat} {τ : List Sub} (h : Ok S n τ) {T : Sub} (hT : T ∈ τ) : S.d T ≤ T.rel + S.p T.tk := by
  obtain ⟨c1, c2⟩ := h.cp T hT
  obtain ⟨i1, i2⟩ := h.idx T hT
  obtain ⟨_, _, t3, t4⟩ := h.rd hT
  have ha := a_eq S T
  refine Int.le_of_lt_add_one (lt_of_mul (c := S.c T.tk) (by omega) ?_)
  have h4 : T.idx * S.p T.tk ≤ S.c T.tk * S.p T.tk := mul_le_l (by omega) (by omega)
  rw [Int.add_mul, Int.add_mul, Int.mul_comm (S.p T.tk)]
  omega
theorem Ok.r_ge {S : Sys} {n : Nat} {τ : List Sub} (h : Ok S n τ) {T : Sub} (hT : T ∈ τ) : T.rel ≤ S.r T := by
  obtain ⟨c1, c2⟩ := h.cp T hT
  obtain ⟨i1, i2⟩ := h.idx T hT
  obtain ⟨_, t2, _, _⟩ := h.rd hT
  have h4 : 0 * S.p T.tk ≤ (T.idx - 1) * S.p T.tk := mul_le_l (by omega) (by omega)
  refine Int.le_of_lt_add_one (lt_of_mul (c := S.c T.tk) (by omega) ?_)
  unfold Sys.a at t2
  rw [Int.add_mul]; omega
/-- The next subtask, where its window begins in the last slot of the one before. -/
theorem Ok.next {S : Sys} {n : Nat} {τ : List Sub} (h : Ok S n τ) {X Y : Sub} (hX : X ∈ τ) (hY : Y ∈ τ) (hp : S.pre X Y = true) (hr : S.r Y ≤ S.d X - 1) : S.b X ∧ S.r Y = S.d X - 1 ∧ Y.tk = X.tk ∧ Y.rel = X.rel ∧ Y.idx = X.idx + 1 := by
  obtain ⟨s1, s2, s3, s4⟩ := h.step hX hY hp
  obtain ⟨p1, p2⟩ := pre_iff.1 hp
  obtain ⟨c1, c2⟩ := h.cp X hX
  obtain ⟨x1, x2, x3, x4⟩ := h.rd hX
  obtain ⟨y1, y2, y3, y4⟩ := h.rd hY
  rw [← p1] at y1 y2 y3 y4
  have hre : S.r Y = S.d X - 1 := by omega
  have hb : S.b X := by
    unfold Sys.b
    rw [hre, Int.sub_mul] at y2
    omega
  have hrel : Y.rel = X.rel := by
    rcases h.gap X hX Y hY p1 with g | g | g
    · exact g.symm
    · have := h.r_ge hY
      have := h.d_le hX
      omega
    · have := h.d_le hY
      have h1 := h.r_ge hX
      rw [← p1] at this
      have := (h.step hX hY hp).2.2.1
      have : S.r X < S.d X := lt_of_mul (c := S.c X.tk) (by omega) (by omega)
      omega
  refine ⟨hb, hre, p1.symm, hrel, ?_⟩
  have hi : X.idx < Y.idx := by
    refine Int.not_le.1 fun hle => ?_
    have := mul_le_l (c := S.p X.tk) (by omega) (show Y.idx - 1 ≤ X.idx - 1 by omega)
    unfold Sys.a at p2
    rw [← p1, hrel] at p2
    omega
  have hi2 : ¬ X.idx + 2 ≤ Y.idx := fun hle => by
    have h1 := mul_le_l (c := S.p X.tk) (by omega) (show X.idx + 1 ≤ Y.idx - 1 by omega)
    have e1 : S.a Y = X.rel * S.c X.tk + (Y.idx - 1) * S.p X.tk := by unfold Sys.a; rw [← p1, hrel]
    have e2 := a_eq S X
    rw [Int.add_mul] at h1
    rw [hre, Int.sub_mul] at y2
    omega
  omega
/-- The group deadline of a subtask behind which windows of two slots follow. -/
theorem Pri.low {S : Sys} {n : Nat} {τ : List Sub} (h : Ok S n τ) {g : Sub → Int} (hp : Pri S τ g) {X Y : Sub} (hX : X ∈ τ) (hY : Y ∈ τ) (k : Int) (_hk : 1 ≤ k) (htk : Y.tk = X.tk) (hrel : Y.rel = X.rel) (hidx : Y.idx = X.idx + k) (hr : S.r Y = S.d X + k - 2) (hb : S.b X) (hheavy : S.p X.tk ≤ 2 * S.c X.tk) : S.d X + k ≤ g X := by
  obtain ⟨c1, c2⟩ := h.cp X hX
  obtain ⟨hcp, _⟩ := h.b_idx hX hb
  obtain ⟨m, m1, m2, m3, m4, m5⟩ := hp.heavy X hX hcp hheavy
  obtain ⟨x1, x2, x3, x4⟩ := h.rd hX
  obtain ⟨y1, y2, y3, y4⟩ := h.rd hY
  rw [htk] at y1 y2 y3 y4
  unfold Sys.b at hb
  have hax := a_eq S X
  have hay : S.a Y = X.rel * S.c X.tk + (X.idx + k - 1) * S.p X.tk := by unfold Sys.a; rw [htk, hrel, hidx]
  rw [m3] at m4 ⊢
  generalize S.c X.tk = c at *
  generalize S.p X.tk = p at *
  obtain ⟨γ, rfl⟩ : ∃ γ, p = c + γ := ⟨p - c, by omega⟩
  refine Int.not_lt.1 fun hlt => ?_
  have g1 : gend c (c + γ) m ≤ S.d X - X.rel + k - 1 := by omega
  rw [gend_iff hcp, show c + γ - c = γ by omega] at g1
  have g2 : ¬ gend c (c + γ) m ≤ S.d X - X.rel - 1 := by omega
  rw [gend_iff hcp, show c + γ - c = γ by omega] at g2
  -- relative quantities
  obtain ⟨e, he⟩ : ∃ e, S.d X = X.rel + e + 1 := ⟨S.d X - X.rel - 1, by omega⟩
  rw [he] at x3 x4 hb g1 g2 hr
  rw [hr] at y1 y2
  rw [hax] at x3 x4 hb
  rw [hay] at y1 y2
  generalize X.idx = q at *
  obtain ⟨μ, hμ⟩ : ∃ μ, e = q + μ := ⟨e - q, by omega⟩
  subst hμ
  have a1 : (X.rel + (q + μ) + 1) * c = X.rel * c + q * c + μ * c + c := by rw [Int.add_mul, Int.add_mul, Int.add_mul]; omega
  have a2 : q * (c + γ) = q * c + q * γ := Int.mul_add _ _ _
  have a3 : (X.rel + (q + μ) + 1 + k - 2) * c = X.rel * c + q * c + μ * c + k * c - c := by
    rw [show X.rel + (q + μ) + 1 + k - 2 = X.rel + q + μ + k - 1 by omega, Int.sub_mul, Int.add_mul, Int.add_mul, Int.add_mul]; omega
  have a4 : (q + k - 1) * (c + γ) = q * c + k * c - c + (q * γ + k * γ - γ) := by rw [Int.mul_add, Int.sub_mul, Int.sub_mul, Int.add_mul, Int.add_mul]; omega
  have a5 : (X.rel + (q + μ) + 1 - X.rel + k - 1) * γ = q * γ + μ * γ + k * γ := by
    rw [show X.rel + (q + μ) + 1 - X.rel + k - 1 = q + μ + k by omega, Int.add_mul, Int.add_mul]
  have a6 : (X.rel + (q + μ) + 1 - X.rel - 1) * γ = q * γ + μ * γ := by
    rw [show X.rel + (q + μ) + 1 - X.rel - 1 = q + μ by omega, Int.add_mul]
  rw [a1] at x3 x4 hb
  rw [a3] at y1 y2
  rw [a4] at y1 y2
  rw [a2] at x3 x4 hb
  rw [a5] at g1
  rw [a6] at g2
  have b1 : m * (c + γ) < (μ + 1) * (c + γ) := by
    rw [Int.add_mul μ, Int.one_mul, Int.mul_add μ]; omega
  have b2 : μ * (c + γ) < m * (c + γ) := by rw [Int.mul_add μ]; omega
  have b3 := lt_of_mul (c := c + γ) (by omega) b1
  have b4 := lt_of_mul (c := c + γ) (by omega) b2
  omega
/-- What two subtasks receive in the last slot of the one and the first slot of the other. -/
theorem Ok.frac1 {S : Sys} {n : Nat} {τ : List Sub} (h : Ok S n τ) {V T : Sub} (hV : V ∈ τ) (hT : T ∈ τ) (hp : S.pre V T = true) (hb : S.b V) (hr : S.r T = S.d V) :
    S.a V + S.p V.tk - (S.d V - 1) * S.c V.tk + ((S.r T + 1) * S.c V.tk - S.a T) ≤ S.c V.tk := by
  obtain ⟨c1, c2⟩ := h.cp V hV
  obtain ⟨hcp, hde⟩ := h.b_idx hV hb
  obtain ⟨p1, p2⟩ := pre_iff.1 hp
  obtain ⟨s1, s2, s3, s4⟩ := h.step hV hT hp
  obtain ⟨x1, x2, x3, x4⟩ := h.rd hV
  obtain ⟨y1, y2, y3, y4⟩ := h.rd hT
  rw [← p1] at y1 y2 y3 y4
  have hrel : T.rel = V.rel := by
    rcases h.gap V hV T hT p1 with g | g | g
    · exact g.symm
    · have := h.r_ge hT
      omega
    · have h1 := h.r_ge hV
      have := h.d_le hT
      rw [← p1] at this
      have : S.r V < S.d V := lt_of_mul (c := S.c V.tk) (by omega) (by omega)
      omega
  have e1 : S.a T = V.rel * S.c V.tk + (T.idx - 1) * S.p V.tk := by unfold Sys.a; rw [← p1, hrel]
  have e2 := a_eq S V
  unfold Sys.b at hb
  -- a whole period at least lies between
  have hi : V.idx + 1 < T.idx := by
    refine Int.not_le.1 fun hle => ?_
    have h1 := mul_le_l (c := S.p V.tk) (by omega) (show T.idx - 1 ≤ V.idx by omega)
    rw [hr] at y1
    omega
  have h2 := mul_le_l (c := S.p V.tk) (by omega) (show V.idx + 1 ≤ T.idx - 1 by omega)
  rw [Int.add_mul] at h2
  rw [hr, Int.sub_mul, Int.add_mul]
  omega
theorem Pri.frac {S : Sys} {n : Nat} {τ : List Sub} (h : Ok S n τ) {g : Sub → Int} (hpr : Pri S τ g) {V T : Sub} (hV : V ∈ τ) (hT : T ∈ τ) (hp : S.pre V T = true) (hb : S.b V) (hheavy : S.p V.tk ≤ 2 * S.c V.tk) (hr : S.r T < g V) :
    S.a V + S.p V.tk - (S.d V - 1) * S.c V.tk + ((S.r T + 1) * S.c V.tk - S.a T) ≤ S.c V.tk := by
  obtain ⟨c1, c2⟩ := h.cp V hV
  obtain ⟨hcp, hde⟩ := h.b_idx hV hb
  obtain ⟨m, m1, m2, m3, m4, m5⟩ := hpr.heavy V hV hcp hheavy
  obtain ⟨p1, p2⟩ := pre_iff.1 hp
  obtain ⟨x1, x2, x3, x4⟩ := h.rd hV
  obtain ⟨y1, y2, y3, y4⟩ := h.rd hT
  rw [← p1] at y1 y2 y3 y4
  have hgp : g V ≤ V.rel + S.p V.tk := by
    rw [m3]
    have : gend (S.c V.tk) (S.p V.tk) m ≤ S.p V.tk := by
      rw [gend_iff hcp, Int.mul_comm (S.p V.tk)]
      exact mul_le_l (by omega) m2
    omega
  have hrel : T.rel = V.rel := by
    rcases h.gap V hV T hT p1 with g | g | g
    · exact g.symm
    · have := h.r_ge hT
      omega
    · have h1 := h.r_ge hV
      have := h.d_le hT
      have h3 := (h.step hV hT hp).2.2.1
      rw [← p1] at this
      have : S.r V < S.d V := lt_of_mul (c := S.c V.tk) (by omega) (by omega)
      omega
  have e1 : S.a T = V.rel * S.c V.tk + (T.idx - 1) * S.p V.tk := by unfold Sys.a; rw [← p1, hrel]
  have e2 := a_eq S V
  unfold Sys.b at hb
  have hi1 : V.idx < T.idx := by
    refine Int.not_le.1 fun hle => ?_
    have h1 := mul_le_l (c := S.p V.tk) (by omega) (show T.idx - 1 ≤ V.idx - 1 by omega)
    unfold Sys.a at p2
    rw [← p1, hrel] at p2
    omega
  rw [m3] at hr m4
  generalize S.c V.tk = c at *
  generalize S.p V.tk = p at *
  obtain ⟨γ, rfl⟩ : ∃ γ, p = c + γ := ⟨p - c, by omega⟩
  obtain ⟨e, he⟩ : ∃ e, S.d V = V.rel + e + 1 := ⟨S.d V - V.rel - 1, by omega⟩
  obtain ⟨f, hf⟩ : ∃ f, S.r T = V.rel + f := ⟨S.r T - V.rel, by omega⟩
  have hq1 := (h.idx V hV).1
  generalize V.idx = q at *
  obtain ⟨m', hm'⟩ : ∃ m', T.idx = q + m' + 1 := ⟨T.idx - q - 1, by omega⟩
  rw [he] at x3 x4 hb m4 m5 ⊢
  rw [hf] at y1 y2 hr ⊢
  rw [e2] at x3 x4 hb ⊢
  rw [e1, hm'] at y1 y2 ⊢
  obtain ⟨μ, hμ⟩ : ∃ μ, e = q + μ := ⟨e - q, by omega⟩
  obtain ⟨ν, hν⟩ : ∃ ν, f = q + m' + ν := ⟨f - q - m', by omega⟩
  subst hμ hν
  have a1 : (V.rel + (q + μ) + 1) * c = V.rel * c + q * c + μ * c + c := by rw [Int.add_mul, Int.add_mul, Int.add_mul]; omega
  have a2 : q * (c + γ) = q * c + q * γ := Int.mul_add _ _ _
  have a3 : (V.rel + (q + m' + ν)) * c = V.rel * c + q * c + m' * c + ν * c := by rw [Int.add_mul, Int.add_mul, Int.add_mul]; omega
  have a4 : (q + m' + 1 - 1) * (c + γ) = q * c + m' * c + q * γ + m' * γ := by rw [show q + m' + 1 - 1 = q + m' by omega, Int.mul_add, Int.add_mul, Int.add_mul]; omega
  have a5 : (V.rel + (q + μ) + 1 - 1) * c = V.rel * c + q * c + μ * c := by rw [show V.rel + (q + μ) + 1 - 1 = V.rel + (q + μ) by omega, Int.add_mul, Int.add_mul]; omega
  have a6 : (V.rel + (q + m' + ν) + 1) * c = V.rel * c + q * c + m' * c + ν * c + c := by rw [Int.add_mul, Int.add_mul, Int.add_mul, Int.add_mul]; omega
  rw [a1, a2] at x3 x4 hb
  rw [a3, a4] at y1 y2
  rw [a5, a6, a2, a4]
  -- no group ends between
  refine Int.not_lt.1 fun hlt => ?_
  have hμ0 : 0 ≤ μ := by
    refine Int.not_lt.1 fun hneg => ?_
    have h1 := mul_le_l (c := c) (by omega) (show μ ≤ -1 by omega)
    have h2 := mul_le_l (c := γ) (by omega) (show 1 ≤ q by omega)
    omega
  have hνμ : μ + 1 ≤ ν := by
    refine Int.not_lt.1 fun hle => ?_
    have h1 := mul_le_l (c := c) (by omega) (show ν ≤ μ by omega)
    have h2 := mul_le_l (c := γ) (by omega) (show 0 ≤ m' by omega)
    omega
  have hgm : gend c (c + γ) m ≤ q + m' + ν := by
    have hge : ¬ m > μ + 1 := fun hm => by
      have h1 := m5 (μ + 1) (by omega) (by omega)
      have h2 : gend c (c + γ) (μ + 1) ≤ q + μ := by omega
      rw [gend_iff hcp, show c + γ - c = γ by omega, Int.add_mul, Int.one_mul, Int.mul_add, Int.add_mul] at h2
      omega
    rw [gend_iff hcp, show c + γ - c = γ by omega]
    have h3 := mul_le_l (c := c + γ) (by omega) (show m ≤ ν by omega)
    rw [Int.mul_add ν] at h3
    rw [Int.add_mul, Int.add_mul]
    omega
  omega
/-- Fewer candidates than cores. -/
def Sys.hole (S : Sys) (τ : List Sub) (t : Nat) : Prop := τ.countP (S.cand τ (S.done τ t) t) < S.M
/-- A subtask that is late, where without any other one none would be. -/
structure Bad (S : Sys) (n : Nat) (τ : List Sub) (g : Sub → Int) (Z : Sub) (td : Nat) : Prop where
  ok : Ok S n τ
  pr : Pri S τ g
  mem : Z ∈ τ
  dZ : S.d Z = td
  und : S.done τ td Z = false
  all : ∀ T ∈ τ, T ≠ Z → S.done τ td T = true
  met : ∀ T ∈ τ, T ≠ Z → ∀ u : Nat, S.d T ≤ u → S.done τ u T = true
  dl : ∀ T ∈ τ, S.d T ≤ td
  dif : ∀ X ∈ τ, X ≠ Z → ∀ t, t ≤ td → ¬ Same S τ X t
theorem Ahead.cand {S : Sys} {τ : List Sub} {X Y : Sub} {t : Nat} (h : Ahead S τ X t Y) (hne : Y ≠ X) : S.cand τ (S.done τ t) t Y = true := by
  obtain ⟨hY, hu, hs, hnw⟩ := h
  obtain ⟨a1, a2, a3⟩ := hnw hne
  refine cand_iff.2 ⟨hu, by have := done_r a2; omega, fun A hA hp => ?_⟩
  by_cases hAX : A = X
  · rw [hAX]; exact a1
  · have h1 := done_pre a2 A (mem_wo.2 ⟨hA, hAX⟩) hp
    have hAY : A ≠ Y := fun e => by rw [e] at hp; rw [pre_iff] at hp; omega
    rw [← hs A hA hAX hAY]; exact h1
theorem hole_run {S : Sys} {τ : List Sub} {t : Nat} (h : S.hole τ t) {T : Sub} (hc : S.cand τ (S.done τ t) t T = true) : S.run τ (S.done τ t) t T = true := top_all h hc
theorem run_done {S : Sys} {τ : List Sub} {t : Nat} {T : Sub} (h : S.run τ (S.done τ t) t T = true) : S.done τ (t + 1) T = true := by
  simp [Sys.done, h]
namespace Bad
variable {S : Sys} {n : Nat} {τ : List Sub} {g : Sub → Int} {Z : Sub} {td : Nat}
theorem ahead (h : Bad S n τ g Z td) {X : Sub} (hX : X ∈ τ) (hXZ : X ≠ Z) : ∀ t, t ≤ td → ∃ Y, Ahead S τ X t Y
  | 0, _ => ⟨X, Ahead.zero hX⟩
  | t + 1, ht => by
    obtain ⟨Y, hY⟩ := h.ahead hX hXZ t (by omega)
    rcases hY.succ h.ok hX with ⟨_, h1⟩ | ⟨_, h1 | ⟨Z', _, _, _, h1⟩⟩
    · exact ⟨Y, h1⟩
    · exact absurd h1 (h.dif X hX hXZ _ ht)
    · exact ⟨Z', h1⟩
/-- In a slot with a hole: the one ahead is followed by its successor. -/
theorem link (h : Bad S n τ g Z td) {u : Nat} (hu : u < td) (hh : S.hole τ u) {V X : Sub} (hV : V ∈ τ) (hdV : S.done τ u V = true) (hA : Ahead S τ V u X) :
    X ≠ V ∧ S.d X = u + 1 ∧ S.b X ∧ ∃ Y, Ahead S τ V (u + 1) Y ∧ Y.tk = X.tk ∧ Y.rel = X.rel ∧ Y.idx = X.idx + 1 ∧ S.r Y = u := by
  have hXV : X ≠ V := fun e => by have := hA.und; rw [e, hdV] at this; cases this
  have hVZ : V ≠ Z := fun e => by have := done_le hdV (Nat.le_of_lt hu); rw [e, h.und] at this; cases this
  have hrun := hole_run hh (hA.cand hXV)
  have hXZ : X ≠ Z := fun e => by have := done_le (run_done hrun) hu; rw [e, h.und] at this; cases this
  have hdX : (u : Int) < S.d X := Int.not_le.1 fun hle => by have := h.met X hA.mem hXZ u hle; rw [hA.und] at this; cases this
  rcases hA.succ h.ok hV with ⟨h1, _⟩ | ⟨_, h1 | ⟨Y, h1, h2, h3, h4⟩⟩
  · rw [hrun] at h1; cases h1
  · exact absurd h1 (h.dif V hV hVZ _ hu)
  · have hc : S.cand τ (S.done τ u) u Y = false := by
      cases hc : S.cand τ (S.done τ u) u Y with
      | false => rfl
      | true => rw [hole_run hh hc] at h2; cases h2
    obtain ⟨hp, hr⟩ := h3 hc
    obtain ⟨k1, k2, k3, k4, k5⟩ := h.ok.next hA.mem h4.mem hp (by omega)
    exact ⟨hXV, by omega, k1, Y, h4, k3, k4, k5, by omega⟩
/-- Holes one after the other. -/
theorem chain (h : Bad S n τ g Z td) {u : Nat} {V X : Sub} (hV : V ∈ τ) (hdV : S.done τ u V = true) (hA : Ahead S τ V u X) : ∀ k : Nat, u + k < td → (∀ j, j ≤ k → S.hole τ (u + j)) →
    ∃ Y, Ahead S τ V (u + k + 1) Y ∧ Y.tk = X.tk ∧ Y.rel = X.rel ∧ Y.idx = X.idx + k + 1 ∧ S.r Y = u + k
  | 0, hk, hh => by
    obtain ⟨_, _, _, Y, y1, y2, y3, y4, y5⟩ := h.link hk (hh 0 (Nat.le_refl _)) hV hdV hA
    exact ⟨Y, y1, y2, y3, by omega, by omega⟩
  | k + 1, hk, hh => by
    obtain ⟨Y, y1, y2, y3, y4, y5⟩ := h.chain hV hdV hA k (by omega) fun j hj => hh j (by omega)
    obtain ⟨_, _, _, Y', z1, z2, z3, z4, z5⟩ := h.link (u := u + k + 1) (by omega) (hh (k + 1) (Nat.le_refl _)) hV (done_le hdV (by omega)) y1
    exact ⟨Y', z1, z2.trans y2, z3.trans y3, by omega, by omega⟩
/-- A task that is not served in a slot with a hole, though it receives something in the fluid schedule. -/
theorem idle (h : Bad S n τ g Z td) {u : Nat} (hu : u < td) (hh : S.hole τ u) {i : Nat} (hno : ∀ T ∈ τ, T.tk = i → S.run τ (S.done τ u) u T = false) (hf : S.dF τ i u ≠ 0) :
    ∃ V, V ∈ τ ∧ V.tk = i ∧ S.done τ u V = true ∧ S.d V = u + 1 ∧ (∀ T ∈ τ, T.tk = i → T ≠ V → S.r T ≤ u → S.d T ≤ u) := by
  obtain ⟨T, t1, t2, t3, t4⟩ := h.ok.dF_ex hf
  -- the first subtask whose window holds the slot is done
  have first : ∀ A ∈ τ, A.tk = i → S.r A ≤ u → (u : Int) < S.d A → (∀ B ∈ τ, S.pre B A = true → S.d B ≤ u) → S.done τ u A = true := fun A hA a1 a2 a3 a4 => by
    refine Classical.byContradiction fun hne => ?_
    have hc : S.cand τ (S.done τ u) u A = true := cand_iff.2 ⟨by simpa using hne, a2, fun B hB hp => by
      have hd := a4 B hB hp
      refine h.met B hB (fun e => ?_) u hd
      have := h.dZ
      rw [e] at hd; omega⟩
    have := hole_run hh hc
    rw [hno A hA a1] at this; cases this
  have hex : ∃ V, V ∈ τ ∧ V.tk = i ∧ S.done τ u V = true ∧ (u : Int) < S.d V := by
    by_cases hb : ∀ B ∈ τ, S.pre B T = true → S.d B ≤ u
    · exact ⟨T, t1, t2, first T t1 t2 t3 t4 hb, t4⟩
    · have hb' : ∃ B, B ∈ τ ∧ S.pre B T = true ∧ (u : Int) < S.d B := by
        refine Classical.byContradiction fun hne => hb fun B hB hp => ?_
        exact Int.not_lt.1 fun hlt => hne ⟨B, hB, hp, hlt⟩
      obtain ⟨B, b1, b2, b3⟩ := hb'
      obtain ⟨s1, s2, s3, s4⟩ := h.ok.step b1 t1 b2
      have hBi : B.tk = i := (pre_iff.1 b2).1.trans t2
      refine ⟨B, b1, hBi, first B b1 hBi (by omega) b3 fun A hA hp => ?_, b3⟩
      have := (h.ok.step hA b1 hp).2.2.2
      omega
  obtain ⟨V, v1, v2, v3, v4⟩ := hex
  have hVZ : V ≠ Z := fun e => by have := done_le v3 (Nat.le_of_lt hu); rw [e, h.und] at this; cases this
  obtain ⟨X, hX⟩ := h.ahead v1 hVZ u (by omega)
  obtain ⟨x1, x2, x3, _⟩ := h.link hu hh v1 v3 hX
  have hhi := (hX.new x1).2.2
  have hdVX : S.d V ≤ S.d X := Int.not_lt.1 fun hlt => by
    have := h.ok.tr _ _ _ hhi (h.ok.ord X hX.mem V v1 hlt)
    rw [h.ok.irr] at this; cases this
  have hdV : S.d V = u + 1 := by omega
  refine ⟨V, v1, v2, v3, hdV, fun U hU u1 u2 u3 => ?_⟩
  refine Int.not_lt.1 fun hlt => ?_
  have hap := h.ok.apart v1 hU (v2.trans u1.symm) (fun e => u2 e.symm)
  have hp1 := h.ok.cp V v1
  rcases hap with hap | hap
  · have hpVU : S.pre V U = true := pre_iff.2 ⟨v2.trans u1.symm, by omega⟩
    obtain ⟨s1, s2, s3, s4⟩ := h.ok.step v1 hU hpVU
    have hrU : S.r U = u := by omega
    have hnd : S.done τ u U = false := by
      cases hd : S.done τ u U with
      | false => rfl
      | true => have := done_r hd; omega
    have hc : S.cand τ (S.done τ u) u U = true := cand_iff.2 ⟨hnd, u3, fun B hB hp => by
      have hBU := (h.ok.step hB hU hp).2.1
      by_cases hBV : B = V
      · rw [hBV]; exact v3
      · have hBi : B.tk = V.tk := (pre_iff.1 hp).1.trans (u1.trans v2.symm)
        rcases h.ok.apart hB v1 hBi hBV with q | q
        · exact done_pre v3 B hB (pre_iff.2 ⟨hBi, by rw [hBi] at q; omega⟩)
        · exfalso
          have := (h.ok.step v1 hB (pre_iff.2 ⟨hBi.symm, by rw [hBi] at q; omega⟩)).2.2.2
          omega⟩
    have := hole_run hh hc
    rw [hno U hU u1] at this; cases this
  · have hpUV : S.pre U V = true := pre_iff.2 ⟨u1.trans v2.symm, by omega⟩
    have := (h.ok.step hU v1 hpUV).2.2.1
    omega
/-- What such a task receives until the next slot without a hole. -/
theorem after (h : Bad S n τ g Z td) {u k : Nat} (hu : u + k < td) (hh : ∀ j, j ≤ k → S.hole τ (u + j)) {V : Sub} (hV : V ∈ τ) (hdV : S.done τ u V = true) (hd : S.d V = u + 1) {T : Sub} (hT : T ∈ τ) (hp : S.pre V T = true) (hr : S.r T ≤ u + k + 1) (hr2 : (u : Int) + 1 ≤ S.r T) :
    S.a V + S.p V.tk - (S.d V - 1) * S.c V.tk + ((S.r T + 1) * S.c V.tk - S.a T) ≤ S.c V.tk := by
  have hVZ : V ≠ Z := fun e => by have := done_le hdV (show u ≤ td by omega); rw [e, h.und] at this; cases this
  obtain ⟨X, hX⟩ := h.ahead hV hVZ u (by omega)
  obtain ⟨x1, x2, x3, _⟩ := h.link (by omega) (hh 0 (Nat.zero_le _)) hV hdV hX
  have hhi := (hX.new x1).2.2
  obtain ⟨hbV, hg⟩ := h.pr.pri V hV X hX.mem hhi (by omega) x3
  cases k with
  | zero => exact h.ok.frac1 hV hT hp hbV (by simp at hr; omega)
  | succ k =>
    obtain ⟨Y1, y1, y2, y3, y4, y5⟩ := h.chain hV hdV hX 0 (by omega) fun j hj => hh j (by omega)
    obtain ⟨Y, z1, z2, z3, z4, z5⟩ := h.chain hV hdV hX (k + 1) (by omega) fun j hj => hh j (by omega)
    -- X is heavy: its successor's window has two slots
    obtain ⟨w1, w2, w3, w4⟩ := h.link (u := u + 0 + 1) (by omega) (hh 1 (by omega)) hV (done_le hdV (by omega)) y1
    have hXh : S.p X.tk ≤ 2 * S.c X.tk := by
      obtain ⟨c1, c2⟩ := h.ok.cp Y1 y1.mem
      obtain ⟨e1, e2, e3, e4⟩ := h.ok.rd y1.mem
      rw [y2] at c1 c2 e1 e2 e3 e4
      rw [y5] at e1
      rw [w2] at e3
      have q1 : ((u + 0 + 1 : Nat) : Int) + 1 = u + 0 + 2 := by omega
      rw [q1, Int.add_mul] at e3
      have q2 : ((u : Int) + (0 : Nat)) = u + 0 := by omega
      rw [q2] at e1
      omega
    have hgX := h.pr.low h.ok hX.mem z1.mem (k + 2) (by omega) z2 z3 (by rw [z4]; omega) (by rw [z5, x2]; omega) x3 hXh
    have hVh : S.p V.tk ≤ 2 * S.c V.tk := by
      refine Int.not_lt.1 fun hlt => ?_
      have := h.pr.light V hV hlt
      omega
    exact h.pr.frac h.ok hV hT hp hbV hVh (by omega)
/-- How much a task has been served. -/
def _root_.Go.Proofs.Ytdlbokcndbbgnaa.PD.Sys.R (S : Sys) (τ : List Sub) (i : Nat) (t : Nat) : Int := sumL (fun T => if T.tk = i then (if S.done τ t T = true then 1 else 0) else 0) τ
theorem R_mono (i t : Nat) : S.R τ i t ≤ S.R τ i (t + 1) := by
  unfold Sys.R
  have : 0 ≤ sumL (fun T => (if T.tk = i then (if S.done τ (t + 1) T = true then (1 : Int) else 0) else 0) - (if T.tk = i then (if S.done τ t T = true then 1 else 0) else 0)) τ := sumL_nonneg fun T _ => by
    by_cases hi : T.tk = i
    · rw [if_pos hi, if_pos hi]
      cases hd : S.done τ t T with
      | true => rw [done_mono hd 1]; simp
      | false => split <;> simp
    · rw [if_neg hi, if_neg hi]; omega
  rw [sumL_sub] at this
  omega
theorem R_run (ok : Ok S n τ) {i t : Nat} {T : Sub} (hT : T ∈ τ) (hi : T.tk = i) (hr : S.run τ (S.done τ t) t T = true) : S.R τ i t + 1 ≤ S.R τ i (t + 1) := by
  unfold Sys.R
  have hd : S.done τ t T = false := by
    unfold Sys.run top at hr
    simp at hr
    exact (cand_iff.1 hr.1).1
  have h0 : 0 ≤ sumL (fun T => (if T.tk = i then (if S.done τ (t + 1) T = true then (1 : Int) else 0) else 0) - (if T.tk = i then (if S.done τ t T = true then 1 else 0) else 0)) (wo τ T) := sumL_nonneg fun T _ => by
    by_cases hi : T.tk = i
    · rw [if_pos hi, if_pos hi]
      cases hd : S.done τ t T with
      | true => rw [done_mono hd 1]; simp
      | false => split <;> simp
    · rw [if_neg hi, if_neg hi]; omega
  have h1 := sumL_wo (f := fun T => (if T.tk = i then (if S.done τ (t + 1) T = true then (1 : Int) else 0) else 0) - (if T.tk = i then (if S.done τ t T = true then 1 else 0) else 0)) ok.nd hT
  rw [sumL_sub] at h1
  rw [if_pos hi, if_pos hi, run_done hr, hd] at h1
  simp only [if_true] at h1
  simp at h1
  omega
/-- What a task has received more than it was served, from a slot on. -/
def _root_.Go.Proofs.Ytdlbokcndbbgnaa.PD.Sys.G (S : Sys) (τ : List Sub) (i : Nat) (t : Nat) : Nat → Int
  | 0 => 0
  | j + 1 => S.G τ i t j + S.dF τ i ((t + j : Nat) : Int) - S.p i * (S.R τ i (t + j + 1) - S.R τ i (t + j))
theorem G_inv (h : Bad S n τ g Z td) {i : Nat} (hc : 1 ≤ S.c i ∧ S.c i ≤ S.p i) {t k : Nat} (ht : t + k ≤ td - 1) (htd : 1 ≤ td) (hh : ∀ j, j < k → S.hole τ (t + j)) : ∀ j, j ≤ k →
    S.G τ i t j ≤ 0 ∨ ∃ V, V ∈ τ ∧ V.tk = i ∧ S.G τ i t j ≤ S.a V + S.p i - (S.d V - 1) * S.c i ∧ S.a V + S.p i - (S.d V - 1) * S.c i ≤ S.c i ∧
      (∀ T ∈ τ, S.pre V T = true → S.r T ≤ t + k → (t + j : Int) ≤ S.r T ∧ S.a V + S.p i - (S.d V - 1) * S.c i + ((S.r T + 1) * S.c i - S.a T) ≤ S.c i) ∧
      (∀ T ∈ τ, T.tk = i → S.pre V T = false → S.d T ≤ t + j)
  | 0, _ => .inl (Int.le_refl _)
  | j + 1, hj => by
    have ih := h.G_inv hc ht htd hh j (by omega)
    have hhj := hh j (by omega)
    have hdle := h.ok.dF_le (i := i) (u := ((t + j : Nat) : Int)) hc.1
    have hge := h.ok.dF_nonneg i ((t + j : Nat) : Int)
    have hR := R_mono (S := S) (τ := τ) i (t + j)
    show S.G τ i t j + S.dF τ i ((t + j : Nat) : Int) - S.p i * (S.R τ i (t + j + 1) - S.R τ i (t + j)) ≤ 0 ∨ ∃ V, V ∈ τ ∧ V.tk = i ∧ S.G τ i t j + S.dF τ i ((t + j : Nat) : Int) - S.p i * (S.R τ i (t + j + 1) - S.R τ i (t + j)) ≤ _ ∧ _
    have hR0 : 0 ≤ S.p i * (S.R τ i (t + j + 1) - S.R τ i (t + j)) := Int.mul_nonneg (by omega) (by omega)
    -- the flow of those that follow V
    have hflow : ∀ V ∈ τ, V.tk = i → (∀ T ∈ τ, S.pre V T = true → S.r T ≤ t + k → (t + j : Int) ≤ S.r T ∧ S.a V + S.p i - (S.d V - 1) * S.c i + ((S.r T + 1) * S.c i - S.a T) ≤ S.c i) → (∀ T ∈ τ, T.tk = i → S.pre V T = false → S.d T ≤ t + j) → S.dF τ i ((t + j : Nat) : Int) ≠ 0 → (∃ T, T ∈ τ ∧ T.tk = i ∧ S.r T = t + j ∧ S.pre V T = true) ∧ S.a V + S.p i - (S.d V - 1) * S.c i + S.dF τ i ((t + j : Nat) : Int) ≤ S.c i := fun V hV hVi h1 h2 hne => by
      obtain ⟨T, t1, t2, t3, t4⟩ := h.ok.dF_ex hne
      have hpT : ∀ U ∈ τ, U.tk = i → S.r U ≤ ((t + j : Nat) : Int) → ((t + j : Nat) : Int) < S.d U → S.pre V U = true ∧ S.r U = t + j := fun U hU u1 u2 u3 => by
        have hp : S.pre V U = true := by
          cases hp : S.pre V U with
          | true => rfl
          | false => have := h2 U hU u1 hp; omega
        have := (h1 U hU hp (by omega)).1
        exact ⟨hp, by omega⟩
      obtain ⟨p1, p2⟩ := hpT T t1 t2 t3 t4
      refine ⟨⟨T, t1, t2, p2, p1⟩, ?_⟩
      have hs : S.dF τ i ((t + j : Nat) : Int) = S.df1 i ((t + j : Nat) : Int) T := sumL_single h.ok.nd t1 fun U hU hUT => by
        refine Classical.byContradiction fun hne => ?_
        obtain ⟨w1, w2, w3⟩ := (h.ok.df1_pos hU).2.1 hne
        obtain ⟨q1, q2⟩ := hpT U hU w1 w2 w3
        have hpp := h.ok.cp U hU
        rcases h.ok.apart hU t1 (w1.trans t2.symm) hUT with q | q
        · have := (h.ok.step hU t1 (pre_iff.2 ⟨w1.trans t2.symm, by omega⟩)).2.1
          omega
        · have := (h.ok.step t1 hU (pre_iff.2 ⟨t2.trans w1.symm, by omega⟩)).2.1
          omega
      have hb := (h1 T t1 p1 (by omega)).2
      rw [hs]
      unfold Sys.df1 Sys.df Sys.fl
      rw [if_pos t2, t2]
      obtain ⟨e1, e2, e3, e4⟩ := h.ok.rd t1
      rw [t2] at e1 e2 e3 e4
      have q1 : ((t + j : Nat) : Int) = S.r T := by omega
      rw [q1]
      rw [Int.add_mul] at hb ⊢
      omega
    by_cases hrun : ∃ T, T ∈ τ ∧ T.tk = i ∧ S.run τ (S.done τ (t + j)) (t + j) T = true
    · left
      obtain ⟨T, t1, t2, t3⟩ := hrun
      have hR1 := R_run h.ok t1 t2 t3
      have hR2 : S.p i * 1 ≤ S.p i * (S.R τ i (t + j + 1) - S.R τ i (t + j)) := Int.mul_le_mul_of_nonneg_left (by omega) (by omega)
      rcases ih with ih | ⟨V, v1, v2, v3, v4, v5, v6⟩
      · omega
      · by_cases hz : S.dF τ i ((t + j : Nat) : Int) = 0
        · omega
        · have := (hflow V v1 v2 v5 v6 hz).2
          omega
    · have hno : ∀ T ∈ τ, T.tk = i → S.run τ (S.done τ (t + j)) (t + j) T = false := fun T hT hi => by
        cases hr : S.run τ (S.done τ (t + j)) (t + j) T with
        | false => rfl
        | true => exact absurd ⟨T, hT, hi, hr⟩ hrun
      by_cases hz : S.dF τ i ((t + j : Nat) : Int) = 0
      · rcases ih with ih | ⟨V, v1, v2, v3, v4, v5, v6⟩
        · left; omega
        · right
          refine ⟨V, v1, v2, by omega, v4, fun T hT hp hr => ?_, fun T hT hi hp => by have := v6 T hT hi hp; omega⟩
          obtain ⟨q1, q2⟩ := v5 T hT hp hr
          refine ⟨?_, q2⟩
          refine Classical.byContradiction fun hne => ?_
          have hrT : S.r T = ((t + j : Nat) : Int) := by omega
          have hTi : T.tk = i := (pre_iff.1 hp).1.symm.trans v2
          obtain ⟨c1, c2⟩ := h.ok.cp T hT
          obtain ⟨e1, e2, e3, e4⟩ := h.ok.rd hT
          have hrd : S.r T < S.d T := lt_of_mul (c := S.c T.tk) (by omega) (by omega)
          have h1 := ((h.ok.df1_pos (i := i) (u := ((t + j : Nat) : Int)) hT).2.2 ⟨hTi, by omega, by omega⟩)
          have h0 := (h.ok.df1_pos (i := i) (u := ((t + j : Nat) : Int)) hT).1
          have h2 : S.dF τ i ((t + j : Nat) : Int) = _ := sumL_wo h.ok.nd hT
          have h3 : 0 ≤ sumL (S.df1 i ((t + j : Nat) : Int)) (wo τ T) := sumL_nonneg fun U hU => (h.ok.df1_pos (mem_wo.1 hU).1).1
          omega
      · obtain ⟨V, v1, v2, v3, v4, v5⟩ := h.idle (u := t + j) (by omega) hhj hno hz
        rcases ih with ih | ⟨V', w1, w2, w3, w4, w5, w6⟩
        · right
          have hrV := done_r v3
          obtain ⟨e1, e2, e3, e4⟩ := h.ok.rd v1
          rw [v2] at e1 e2 e3 e4
          have hdF : S.dF τ i ((t + j : Nat) : Int) = S.a V + S.p i - (S.d V - 1) * S.c i := by
            have hs : S.dF τ i ((t + j : Nat) : Int) = S.df1 i ((t + j : Nat) : Int) V := sumL_single h.ok.nd v1 fun U hU hUV => by
              refine Classical.byContradiction fun hne => ?_
              obtain ⟨w1, w2, w3⟩ := (h.ok.df1_pos hU).2.1 hne
              have := v5 U hU w1 hUV w2
              omega
            rw [hs]
            unfold Sys.df1 Sys.df Sys.fl
            rw [if_pos v2, v2]
            have q1 : ((t + j : Nat) : Int) = S.d V - 1 := by omega
            rw [q1]
            have q2 := mul_le_l (c := S.c i) (by omega) (show S.r V + 1 ≤ S.d V - 1 by omega)
            rw [Int.add_mul] at q2
            rw [show S.d V - 1 + 1 = S.d V by omega]
            have q3 : (S.d V - 1) * S.c i = S.d V * S.c i - S.c i := by rw [Int.sub_mul, Int.one_mul]
            omega
          refine ⟨V, v1, v2, by omega, by omega, fun T hT hp hr => ?_, fun T hT hi hp => ?_⟩
          · have hTi : T.tk = i := (pre_iff.1 hp).1.symm.trans v2
            have hTV : T ≠ V := fun e => by rw [e, pre_iff] at hp; omega
            have hr1 : ((t + j : Nat) : Int) + 1 ≤ S.r T := by
              refine Classical.byContradiction fun hne => ?_
              have h1 := v5 T hT hTi hTV (by omega)
              have h2 := (h.ok.step v1 hT hp).2.2.1
              omega
            refine ⟨by omega, ?_⟩
            have := h.after (u := t + j) (k := k - j - 1) (by omega) (fun m hm => by rw [Nat.add_assoc]; exact hh (j + m) (by omega)) v1 v3 v4 hT hp (by omega) hr1
            rw [v2] at this
            exact this
          · by_cases hTV : T = V
            · rw [hTV, v4]; omega
            · have hap := h.ok.apart v1 hT (v2.trans hi.symm) (fun e => hTV e.symm)
              have hpp := h.ok.cp V v1
              have hle : S.a T + S.p V.tk ≤ S.a V := by
                rcases hap with q | q
                · have := pre_iff.2 ⟨v2.trans hi.symm, show S.a V < S.a T by omega⟩
                  rw [hp] at this; cases this
                · exact q
              have := (h.ok.step hT v1 (pre_iff.2 ⟨hi.trans v2.symm, by omega⟩)).2.2.1
              omega
        · exfalso
          have hrV := done_r v3
          have hpV : S.pre V' V = true := by
            cases hp : S.pre V' V with
            | true => rfl
            | false => have := w6 V v1 v2 hp; omega
          have := (w5 V v1 hpV (by omega)).1
          omega
theorem G_end (h : Bad S n τ g Z td) {i : Nat} (hc : 1 ≤ S.c i ∧ S.c i ≤ S.p i) {t k : Nat} (ht : t + k ≤ td - 1) (htd : 1 ≤ td) (hh : ∀ j, j < k → S.hole τ (t + j)) : S.G τ i t k + S.dF τ i ((t + k : Nat) : Int) ≤ S.c i := by
  have hdle := h.ok.dF_le (i := i) (u := ((t + k : Nat) : Int)) hc.1
  rcases h.G_inv hc ht htd hh k (Nat.le_refl _) with h1 | ⟨V, v1, v2, v3, v4, v5, v6⟩
  · omega
  · by_cases hz : S.dF τ i ((t + k : Nat) : Int) = 0
    · omega
    · obtain ⟨T, t1, t2, t3, t4⟩ := h.ok.dF_ex hz
      have hpT : ∀ U ∈ τ, U.tk = i → S.r U ≤ ((t + k : Nat) : Int) → ((t + k : Nat) : Int) < S.d U → S.pre V U = true ∧ S.r U = t + k := fun U hU u1 u2 u3 => by
        have hp : S.pre V U = true := by
          cases hp : S.pre V U with
          | true => rfl
          | false => have := v6 U hU u1 hp; omega
        have := (v5 U hU hp (by omega)).1
        exact ⟨hp, by omega⟩
      obtain ⟨p1, p2⟩ := hpT T t1 t2 t3 t4
      have hs : S.dF τ i ((t + k : Nat) : Int) = S.df1 i ((t + k : Nat) : Int) T := sumL_single h.ok.nd t1 fun U hU hUT => by
        refine Classical.byContradiction fun hne => ?_
        obtain ⟨w1, w2, w3⟩ := (h.ok.df1_pos hU).2.1 hne
        obtain ⟨q1, q2⟩ := hpT U hU w1 w2 w3
        have hpp := h.ok.cp U hU
        rcases h.ok.apart hU t1 (w1.trans t2.symm) hUT with q | q
        · have := (h.ok.step hU t1 (pre_iff.2 ⟨w1.trans t2.symm, by omega⟩)).2.1
          omega
        · have := (h.ok.step t1 hU (pre_iff.2 ⟨t2.trans w1.symm, by omega⟩)).2.1
          omega
      have hb := (v5 T t1 p1 (by omega)).2
      have : S.df1 i ((t + k : Nat) : Int) T ≤ (S.r T + 1) * S.c i - S.a T := by
        unfold Sys.df1 Sys.df Sys.fl
        rw [if_pos t2, t2]
        obtain ⟨e1, e2, e3, e4⟩ := h.ok.rd t1
        rw [t2] at e1 e2 e3 e4
        have q1 : ((t + k : Nat) : Int) = S.r T := by omega
        rw [q1]
        rw [Int.add_mul]
        omega
      omega
end Bad
/-- The weights of the tasks, in parts of one whole. -/
structure Load (S : Sys) (n : Nat) (K : Nat → Int) (L : Int) : Prop where
  pos : 0 < L
  c1 : ∀ i, i < n → 1 ≤ S.c i ∧ S.c i ≤ S.p i
  kp : ∀ i, i < n → 0 ≤ K i ∧ K i * S.p i = L
  load : sumN (fun i => K i * S.c i) n ≤ S.M * L
/-- What a task has received in the fluid schedule. -/
def Sys.Fc (S : Sys) (τ : List Sub) (i : Nat) (t : Nat) : Int := sumL (fun T => if T.tk = i then S.fl T (t : Int) else 0) τ
theorem Fc_succ (S : Sys) (τ : List Sub) (i t : Nat) : S.Fc τ i (t + 1) = S.Fc τ i t + S.dF τ i (t : Int) := by
  unfold Sys.Fc Sys.dF
  rw [← sumL_add]
  refine sumL_congr fun T _ => ?_
  unfold Sys.df1 Sys.df
  by_cases hi : T.tk = i
  · rw [if_pos hi, if_pos hi, if_pos hi]
    have : ((t + 1 : Nat) : Int) = (t : Int) + 1 := by omega
    rw [this]; omega
  · rw [if_neg hi, if_neg hi, if_neg hi]; rfl
def Sys.lag (S : Sys) (τ : List Sub) (n : Nat) (K : Nat → Int) (t : Nat) : Int := sumN (fun i => K i * (S.Fc τ i t - S.p i * S.R τ i t)) n
theorem G_eq (S : Sys) (τ : List Sub) (i t : Nat) : ∀ k, S.G τ i t k = S.Fc τ i (t + k) - S.Fc τ i t - S.p i * (S.R τ i (t + k) - S.R τ i t)
  | 0 => by simp [Sys.G]
  | k + 1 => by
    show S.G τ i t k + S.dF τ i ((t + k : Nat) : Int) - S.p i * (S.R τ i (t + k + 1) - S.R τ i (t + k)) = _
    rw [G_eq S τ i t k]
    have := Fc_succ S τ i (t + k)
    rw [← Nat.add_assoc, this]
    rw [Int.mul_sub, Int.mul_sub, Int.mul_sub]
    omega
/-- The tasks served in a slot without a hole. -/
theorem R_full {S : Sys} {n : Nat} {τ : List Sub} (ok : Ok S n τ) {t : Nat} (hh : ¬ S.hole τ t) : (S.M : Int) ≤ sumN (fun i => S.R τ i (t + 1) - S.R τ i t) n := by
  have h1 : S.M ≤ τ.countP (S.run τ (S.done τ t) t) := top_full ok.nd ok.irr ok.tr ok.tot S.M _ _ rfl (by unfold Sys.hole at hh; omega)
  have h2 := countP_sumL (S.run τ (S.done τ t) t) τ
  have h3 : sumN (fun i => S.R τ i (t + 1) - S.R τ i t) n = sumL (fun T => (if S.done τ (t + 1) T = true then (1 : Int) else 0) - (if S.done τ t T = true then 1 else 0)) τ := by
    rw [← sumN_sumL (f := fun T => (if S.done τ (t + 1) T = true then (1 : Int) else 0) - (if S.done τ t T = true then 1 else 0)) ok.tk]
    refine sumN_congr fun i _ => ?_
    unfold Sys.R
    rw [← sumL_sub]
    refine sumL_congr fun T _ => ?_
    by_cases hi : T.tk = i
    · rw [if_pos hi, if_pos hi, if_pos hi]
    · rw [if_neg hi, if_neg hi, if_neg hi]; rfl
  rw [h3]
  have h4 : sumL (fun T => if S.run τ (S.done τ t) t T = true then (1 : Int) else 0) τ = sumL (fun T => (if S.done τ (t + 1) T = true then (1 : Int) else 0) - (if S.done τ t T = true then 1 else 0)) τ := by
    refine sumL_congr fun T _ => ?_
    cases hr : S.run τ (S.done τ t) t T with
    | true =>
      have hd : S.done τ t T = false := by
        unfold Sys.run top at hr
        simp at hr
        exact (cand_iff.1 hr.1).1
      rw [run_done hr, hd]; rfl
    | false =>
      have : S.done τ (t + 1) T = S.done τ t T := by simp [Sys.done, hr]
      rw [this]; simp
  rw [← h4, ← h2]
  omega
namespace Bad
variable {S : Sys} {n : Nat} {τ : List Sub} {g : Sub → Int} {Z : Sub} {td : Nat}
/-- From a slot to the one behind the next slot without a hole the lag does not grow. -/
theorem lag_le (h : Bad S n τ g Z td) {K : Nat → Int} {L : Int} (hL : Load S n K L) {t k : Nat} (ht : t + k ≤ td - 1) (htd : 1 ≤ td) (hh : ∀ j, j < k → S.hole τ (t + j)) (hn : ¬ S.hole τ (t + k)) : S.lag τ n K (t + k + 1) ≤ S.lag τ n K t := by
  unfold Sys.lag
  have h1 : sumN (fun i => K i * (S.Fc τ i (t + k + 1) - S.p i * S.R τ i (t + k + 1))) n - sumN (fun i => K i * (S.Fc τ i t - S.p i * S.R τ i t)) n = sumN (fun i => K i * (S.G τ i t k + S.dF τ i ((t + k : Nat) : Int))) n - sumN (fun i => (S.R τ i (t + k + 1) - S.R τ i (t + k)) * L) n := by
    rw [← sumN_sub, ← sumN_sub]
    refine sumN_congr fun i hi => ?_
    have hk := (hL.kp i hi).2
    rw [G_eq, Fc_succ S τ i (t + k), ← hk, ← Int.mul_sub]
    rw [Int.mul_comm _ (K i * S.p i), Int.mul_assoc, ← Int.mul_sub]
    congr 1
    rw [Int.mul_sub, Int.mul_sub]
    omega
  have h2 : sumN (fun i => K i * (S.G τ i t k + S.dF τ i ((t + k : Nat) : Int))) n ≤ sumN (fun i => K i * S.c i) n := sumN_le fun i hi => Int.mul_le_mul_of_nonneg_left (h.G_end (hL.c1 i hi) ht htd hh) (hL.kp i hi).1
  have h3 := R_full h.ok hn
  have h4 := mul_le_l (c := L) (by have := hL.pos; omega) h3
  rw [sumN_mul] at h1
  have := hL.load
  omega
theorem td_pos (h : Bad S n τ g Z td) : 1 ≤ td := by
  obtain ⟨c1, c2⟩ := h.ok.cp Z h.mem
  obtain ⟨e1, e2, e3, e4⟩ := h.ok.rd h.mem
  have hr := h.ok.r_ge h.mem
  have h0 := h.ok.rel Z h.mem
  have h1 : S.r Z < S.d Z := lt_of_mul (c := S.c Z.tk) (by omega) (by omega)
  have := h.dZ
  omega
/-- No hole in the last slot. -/
theorem last (h : Bad S n τ g Z td) : ¬ S.hole τ (td - 1) := fun hh => by
  have htd := h.td_pos
  have hdZ := h.dZ
  obtain ⟨c1, c2⟩ := h.ok.cp Z h.mem
  obtain ⟨e1, e2, e3, e4⟩ := h.ok.rd h.mem
  have h1 : S.r Z < S.d Z := lt_of_mul (c := S.c Z.tk) (by omega) (by omega)
  have hu : S.done τ (td - 1) Z = false := by
    cases hd : S.done τ (td - 1) Z with
    | false => rfl
    | true => have := done_le hd (show td - 1 ≤ td by omega); rw [h.und] at this; cases this
  have hc : S.cand τ (S.done τ (td - 1)) (td - 1) Z = true := cand_iff.2 ⟨hu, by omega, fun A hA hp => by
    have := (h.ok.step hA h.mem hp).2.2.1
    exact h.met A hA (fun e => by rw [e] at this; omega) _ (by omega)⟩
  have := run_done (hole_run hh hc)
  rw [show td - 1 + 1 = td by omega, h.und] at this
  cases this
theorem lag_down (h : Bad S n τ g Z td) {K : Nat → Int} {L : Int} (hL : Load S n K L) : ∀ m t, td - t ≤ m → t ≤ td → S.lag τ n K td ≤ S.lag τ n K t
  | 0, t, hm, ht => by
    have : t = td := by omega
    rw [this]; exact Int.le_refl _
  | m + 1, t, hm, ht => by
    have htd := h.td_pos
    by_cases he : t = td
    · rw [he]; exact Int.le_refl _
    -- the next slot without a hole
    have hex : ∀ m, ∀ t, t + m = td - 1 → ∃ k, t + k ≤ td - 1 ∧ (∀ j, j < k → S.hole τ (t + j)) ∧ ¬ S.hole τ (t + k) := fun m => by
      induction m with
      | zero => exact fun t e => ⟨0, by omega, fun j hj => by omega, by rw [show t + 0 = td - 1 by omega]; exact h.last⟩
      | succ m ih =>
        intro t e
        by_cases hh : S.hole τ t
        · obtain ⟨k, k1, k2, k3⟩ := ih (t + 1) (by omega)
          refine ⟨k + 1, by omega, fun j hj => ?_, by rw [show t + (k + 1) = t + 1 + k by omega]; exact k3⟩
          cases j with
          | zero => exact hh
          | succ j => rw [show t + (j + 1) = t + 1 + j by omega]; exact k2 j (by omega)
        · exact ⟨0, by omega, fun j hj => by omega, hh⟩
    obtain ⟨k, k1, k2, k3⟩ := hex (td - 1 - t) t (by omega)
    have h1 := h.lag_le hL k1 htd k2 k3
    have h2 := h.lag_down hL m (t + k + 1) (by omega) (by omega)
    omega
theorem false (h : Bad S n τ g Z td) {K : Nat → Int} {L : Int} (hL : Load S n K L) : False := by
  have h1 := h.lag_down hL td 0 (by omega) (by omega)
  have h0 : S.lag τ n K 0 = 0 := by
    unfold Sys.lag
    have : ∀ m, sumN (fun _ => 0) m = 0 := fun m => by induction m with
      | zero => rfl
      | succ m ih => simp [sumN, ih]
    rw [← this n]
    refine sumN_congr fun i hi => ?_
    have e1 : S.Fc τ i 0 = 0 := sumL_zero fun T hT => by
      by_cases hTi : T.tk = i
      · rw [if_pos hTi]
        have hcp := h.ok.cp T hT
        have hid := h.ok.idx T hT
        have hrl := h.ok.rel T hT
        have q1 : 0 * S.c T.tk ≤ T.rel * S.c T.tk := mul_le_l (by omega) hrl
        have q2 : 0 * S.p T.tk ≤ (T.idx - 1) * S.p T.tk := mul_le_l (by omega) (by omega)
        unfold Sys.fl Sys.a
        simp only [Int.natCast_zero, Int.zero_mul]
        omega
      · rw [if_neg hTi]
    have e2 : S.R τ i 0 = 0 := sumL_zero fun T hT => by simp [Sys.done]
    rw [e1, e2]; simp
  have h2 : S.lag τ n K td = L := by
    unfold Sys.lag
    have hZn := h.ok.tk Z h.mem
    rw [← (hL.kp Z.tk hZn).2]
    have hone : ∀ i, i < n → K i * (S.Fc τ i td - S.p i * S.R τ i td) = (fun j => if Z.tk = j then K j * S.p j else 0) i := fun i hi => by
      have e1 : S.Fc τ i td - S.p i * S.R τ i td = sumL (fun T => if T.tk = i then (if T = Z then S.p i else 0) else 0) τ := by
        have e0 : S.p i * S.R τ i td = sumL (fun T => if T.tk = i then (if S.done τ td T = true then S.p i else 0) else 0) τ := by
          unfold Sys.R
          have : ∀ l : List Sub, S.p i * sumL (fun T => if T.tk = i then (if S.done τ td T = true then 1 else 0) else 0) l = sumL (fun T => if T.tk = i then (if S.done τ td T = true then S.p i else 0) else 0) l := fun l => by
            induction l with
            | nil => simp [sumL]
            | cons T l ih =>
              simp only [sumL]
              rw [Int.mul_add, ih]
              congr 1
              split
              · split <;> simp
              · simp
          exact this τ
        rw [e0]
        unfold Sys.Fc
        rw [← sumL_sub]
        refine sumL_congr fun T hT => ?_
        by_cases hTi : T.tk = i
        · rw [if_pos hTi, if_pos hTi, if_pos hTi]
          obtain ⟨c1, c2⟩ := h.ok.cp T hT
          obtain ⟨f1, f2, f3, f4⟩ := h.ok.rd hT
          have hfl : S.fl T td = S.p i := by
            unfold Sys.fl
            have := mul_le_l (c := S.c T.tk) (by omega) (h.dl T hT)
            rw [hTi] at *
            omega
          rw [hfl]
          by_cases hTZ : T = Z
          · subst hTZ
            rw [h.und]; simp
          · rw [h.all T hT hTZ]; simp [hTZ]
        · rw [if_neg hTi, if_neg hTi, if_neg hTi]; rfl
      rw [e1]
      by_cases hZi : Z.tk = i
      · rw [sumL_single h.ok.nd h.mem fun U hU hUZ => by simp [hUZ]]
        simp [hZi]
      · have hz : ∀ T ∈ τ, (if T.tk = i then (if T = Z then S.p i else 0) else 0) = 0 := fun T hT => by
          by_cases hTi : T.tk = i
          · have hTZ : T ≠ Z := fun e => hZi (by rw [← e]; exact hTi)
            rw [if_pos hTi, if_neg hTZ]
          · rw [if_neg hTi]
        rw [sumL_zero hz]
        simp [hZi]
    rw [sumN_congr hone, sumN_one hZn fun i hi => if_neg (fun e => hi (Eq.symm e))]
    simp
  have := hL.pos
  omega
end Bad
theorem length_wo {τ : List Sub} {X : Sub} (hn : τ.Nodup) (hX : X ∈ τ) : (wo τ X).length + 1 = τ.length := by
  have h := countP_split (p := fun _ => true) hn hX rfl
  rw [List.countP_true] at h
  rw [h]
  unfold wo
  rw [List.countP_eq_length_filter]
  simp
/-- PD2 is optimal: every subtask runs within its window. -/
theorem optimal {S : Sys} {n : Nat} {g : Sub → Int} {K : Nat → Int} {L : Int} (hL : Load S n K L) : ∀ (m : Nat) (τ : List Sub), τ.length = m → Ok S n τ → Pri S τ g → ∀ T ∈ τ, ∀ t : Nat, S.d T ≤ t → S.done τ t T = true
  | 0, τ, hm, _, _ => by
    have : τ = [] := List.length_eq_zero_iff.1 hm
    subst this
    intro T hT; simp at hT
  | m + 1, τ, hm, ok, pr => by
    refine Classical.byContradiction fun hne => ?_
    -- the first one that is late
    have hmiss : ∃ T, T ∈ τ ∧ S.done τ (S.d T).toNat T = false := by
      refine Classical.byContradiction fun hno => hne fun T hT t ht => ?_
      cases hd : S.done τ (S.d T).toNat T with
      | true => exact done_le hd (by omega)
      | false => exact absurd ⟨T, hT, hd⟩ hno
    have hfirst : ∀ k, (∃ T, T ∈ τ ∧ S.done τ (S.d T).toNat T = false ∧ (S.d T).toNat = k) → ∃ Z, Z ∈ τ ∧ S.done τ (S.d Z).toNat Z = false ∧ ∀ T ∈ τ, (S.d T).toNat < (S.d Z).toNat → S.done τ (S.d T).toNat T = true := fun k => by
      induction k using Nat.strongRecOn with
      | ind k ih =>
        rintro ⟨T, t1, t2, t3⟩
        by_cases hex : ∃ U, U ∈ τ ∧ S.done τ (S.d U).toNat U = false ∧ (S.d U).toNat < k
        · obtain ⟨U, u1, u2, u3⟩ := hex
          exact ih _ u3 ⟨U, u1, u2, rfl⟩
        · refine ⟨T, t1, t2, fun U hU hlt => ?_⟩
          cases hd : S.done τ (S.d U).toNat U with
          | true => rfl
          | false => exact absurd ⟨U, hU, hd, by omega⟩ hex
    obtain ⟨T0, q1, q2⟩ := hmiss
    obtain ⟨Z, z1, z2, z3⟩ := hfirst _ ⟨T0, q1, q2, rfl⟩
    have dpos : ∀ T ∈ τ, 0 ≤ S.d T := fun T hT => by
      have h0 := ok.rel T hT
      obtain ⟨c1, c2⟩ := ok.cp T hT
      obtain ⟨e1, e2, e3, e4⟩ := ok.rd hT
      have := ok.r_ge hT
      have h1 : S.r T < S.d T := lt_of_mul (c := S.c T.tk) (by omega) (by omega)
      omega
    have hdZ : S.d Z = ((S.d Z).toNat : Int) := by have := dpos Z z1; omega
    generalize htd : (S.d Z).toNat = td at *
    have hdif : ∀ X ∈ τ, X ≠ Z → ∀ t, t ≤ td → ¬ Same S τ X t := fun X hX hXZ t ht hs => by
      obtain ⟨k, rfl⟩ := Nat.le.dest ht
      have h1 := (hs.le k).2 Z z1 (fun e => hXZ e.symm)
      have hl := length_wo ok.nd hX
      have h2 := optimal hL m (wo τ X) (by omega) (ok.sub (nodup_wo ok.nd) fun T hT => (mem_wo.1 hT).1) (pr.sub fun T hT => (mem_wo.1 hT).1) Z (mem_wo.2 ⟨z1, fun e => hXZ e.symm⟩) (t + k) (by omega)
      rw [h1, z2] at h2; cases h2
    have hahead : ∀ X ∈ τ, X ≠ Z → Ahead S τ X td Z := fun X hX hXZ => by
      have hgo : ∀ t, t ≤ td → ∃ Y, Ahead S τ X t Y := fun t => by
        induction t with
        | zero => exact fun _ => ⟨X, Ahead.zero hX⟩
        | succ t ih =>
          intro ht
          obtain ⟨Y, hY⟩ := ih (by omega)
          rcases hY.succ ok hX with ⟨_, h1⟩ | ⟨_, h1 | ⟨Z', _, _, _, h1⟩⟩
          · exact ⟨Y, h1⟩
          · exact absurd h1 (hdif X hX hXZ _ ht)
          · exact ⟨Z', h1⟩
      obtain ⟨Y, hY⟩ := hgo td (Nat.le_refl _)
      by_cases hYZ : Y = Z
      · rw [← hYZ]; exact hY
      · have h1 := hY.same Z z1 (fun e => hXZ e.symm) (fun e => hYZ e.symm)
        have hl := length_wo ok.nd hX
        have h2 := optimal hL m (wo τ X) (by omega) (ok.sub (nodup_wo ok.nd) fun T hT => (mem_wo.1 hT).1) (pr.sub fun T hT => (mem_wo.1 hT).1) Z (mem_wo.2 ⟨z1, fun e => hXZ e.symm⟩) td (by omega)
        rw [h1, z2] at h2; cases h2
    have hall : ∀ T ∈ τ, T ≠ Z → S.done τ td T = true ∧ S.d T ≤ td := fun X hX hXZ => by
      obtain ⟨a1, a2, a3⟩ := (hahead X hX hXZ).new (fun e => hXZ e.symm)
      refine ⟨a1, ?_⟩
      refine Int.not_lt.1 fun hlt => ?_
      have := ok.tr _ _ _ a3 (ok.ord Z z1 X hX (by omega))
      rw [ok.irr] at this; cases this
    have hbad : Bad S n τ g Z td := ⟨ok, pr, z1, hdZ, z2, fun T hT hTZ => (hall T hT hTZ).1, fun T hT hTZ u hu => by
        have hd := (hall T hT hTZ).2
        have hp := dpos T hT
        by_cases he : S.d T = td
        · exact done_le (hall T hT hTZ).1 (by omega)
        · exact done_le (z3 T hT (by omega)) (by omega),
      fun T hT => by
        by_cases hTZ : T = Z
        · rw [hTZ, hdZ]; exact Int.le_refl _
        · exact (hall T hT hTZ).2, hdif⟩
    exact hbad.false hL
end Go.Proofs.Ytdlbokcndbbgnaa.PD
/- A schedule made slot by slot by PD2's rule serves every subtask within its window, where the load is at most the number of cores. -/
namespace Go.Proofs.Ytdlbokcndbbgnaa.PD
open SL (Tk Cd)
def cdOf (tk : Nat → Tk) (T : Sub) : Cd := ⟨T.tk, tk T.tk, T.rel, T.idx⟩
def sysOf (tk : Nat → Tk) (M : Nat) : Sys := ⟨fun i => (tk i).cost, fun i => (tk i).per, fun x y => SL.bef (cdOf tk x) (cdOf tk y), M⟩
theorem ceil_shift (a b c : Int) (hc : 0 < c) : (a * c + b + c - 1) / c = a + (b + c - 1) / c := by
  rw [show a * c + b + c - 1 = (b + c - 1) + a * c by omega, Int.add_mul_ediv_right _ _ (by omega)]
  omega
theorem d_eq {tk : Nat → Tk} {M : Nat} {T : Sub} (h : 1 ≤ (tk T.tk).cost) : (sysOf tk M).d T = SL.dl (cdOf tk T) := by
  unfold Sys.d Sys.a SL.dl SL.winD SL.up sysOf cdOf
  simp only
  rw [show T.rel * (tk T.tk).cost + (T.idx - 1) * (tk T.tk).per + (tk T.tk).per + (tk T.tk).cost - 1 = T.rel * (tk T.tk).cost + T.idx * (tk T.tk).per + (tk T.tk).cost - 1 by rw [Int.sub_mul]; omega]
  exact ceil_shift _ _ _ (by omega)
theorem r_eq {tk : Nat → Tk} {M : Nat} {T : Sub} (h : 1 ≤ (tk T.tk).cost) : (sysOf tk M).r T = T.rel + SL.winR (tk T.tk) T.idx := by
  unfold Sys.r Sys.a SL.winR sysOf
  simp only
  rw [Int.add_comm, Int.add_mul_ediv_right _ _ (by omega)]
  omega
theorem b_iff {tk : Nat → Tk} {M : Nat} {T : Sub} (h : 1 ≤ (tk T.tk).cost) : (sysOf tk M).b T ↔ SL.over (tk T.tk) T.idx = true := by
  have e1 : (sysOf tk M).a T + (tk T.tk).per = T.rel * (tk T.tk).cost + T.idx * (tk T.tk).per := a_eq (sysOf tk M) T
  have hd : (sysOf tk M).d T = T.rel + (T.idx * (tk T.tk).per + (tk T.tk).cost - 1) / (tk T.tk).cost := d_eq h
  unfold Sys.b SL.over
  show (sysOf tk M).a T + (tk T.tk).per < (sysOf tk M).d T * (tk T.tk).cost ↔ _
  rw [e1, hd, Int.add_mul]
  simp only [bne_iff_ne, ne_eq]
  generalize T.idx * (tk T.tk).per = x
  generalize (tk T.tk).cost = c at *
  have f1 := Int.mul_ediv_add_emod (x + c - 1) c
  have f2 := Int.emod_nonneg (x + c - 1) (b := c) (by omega)
  have f3 := Int.emod_lt_of_pos (x + c - 1) (b := c) (by omega)
  have g1 := Int.mul_ediv_add_emod x c
  have g2 := Int.emod_nonneg x (b := c) (by omega)
  have g3 := Int.emod_lt_of_pos x (b := c) (by omega)
  rw [Int.mul_comm] at f1 g1
  constructor
  · intro hlt h0
    rw [h0] at g1
    have h1 : x / c < (x + c - 1) / c := lt_of_mul (c := c) (by omega) (by omega)
    have h2 := mul_le_l (c := c) (by omega) (show x / c + 1 ≤ (x + c - 1) / c by omega)
    rw [Int.add_mul] at h2
    omega
  · intro hne
    have h1 : x / c < (x + c - 1) / c := by
      refine Int.not_le.1 fun hle => ?_
      have := mul_le_l (c := c) (by omega) hle
      omega
    have h2 := mul_le_l (c := c) (by omega) (show x / c + 1 ≤ (x + c - 1) / c by omega)
    rw [Int.add_mul] at h2
    omega
/-- All subtasks of jobs: the releases of the tasks, the number of subtasks of each job. -/
def subs (n : Nat) (R : Nat → List Int) (cap : Nat → Int → Nat) : List Sub := (List.range n).flatMap fun i => (R i).flatMap fun r => (List.range (cap i r)).map fun (k : Nat) => ⟨i, r, (k : Int) + 1⟩
theorem mem_subs {n : Nat} {R : Nat → List Int} {cap : Nat → Int → Nat} {T : Sub} : T ∈ subs n R cap ↔ T.tk < n ∧ T.rel ∈ R T.tk ∧ 1 ≤ T.idx ∧ T.idx ≤ cap T.tk T.rel := by
  unfold subs
  simp only [List.mem_flatMap, List.mem_range, List.mem_map]
  constructor
  · rintro ⟨i, hi, r, hr, k, hk, rfl⟩
    exact ⟨hi, hr, by simp only; omega, by simp only; omega⟩
  · rintro ⟨h1, h2, h3, h4⟩
    exact ⟨T.tk, h1, T.rel, h2, (T.idx - 1).toNat, by omega, by cases T; simp only at *; congr 1; omega⟩
structure Jobs (n : Nat) (tk : Nat → Tk) (R : Nat → List Int) (cap : Nat → Int → Nat) : Prop where
  ok : ∀ i, i < n → SL.okTk (tk i) = true
  pos : ∀ i, i < n → ∀ r ∈ R i, 0 ≤ r
  nd : ∀ i, i < n → (R i).Nodup
  gap : ∀ i, i < n → ∀ r ∈ R i, ∀ r' ∈ R i, r = r' ∨ r + (tk i).per ≤ r' ∨ r' + (tk i).per ≤ r
  cap : ∀ i, i < n → ∀ r ∈ R i, (cap i r : Int) ≤ (tk i).cost
theorem subs_nodup {n : Nat} {tk : Nat → Tk} {R : Nat → List Int} {cap : Nat → Int → Nat} (h : Jobs n tk R cap) : (subs n R cap).Nodup := by
  unfold subs
  rw [List.nodup_iff_pairwise_ne, List.pairwise_flatMap]
  refine ⟨fun i hi => ?_, ?_⟩
  · rw [List.pairwise_flatMap]
    refine ⟨fun r _ => ?_, ?_⟩
    · rw [List.pairwise_map]
      refine List.pairwise_lt_range.imp fun {a b} hab e => ?_
      injection e with _ _ e
      omega
    · have := h.nd i (List.mem_range.1 hi)
      rw [List.nodup_iff_pairwise_ne] at this
      refine this.imp fun {a b} hab x hx y hy e => ?_
      obtain ⟨_, _, rfl⟩ := List.mem_map.1 hx
      obtain ⟨_, _, rfl⟩ := List.mem_map.1 hy
      injection e with _ e _
      exact hab e
  · refine List.pairwise_lt_range.imp fun {a b} hab x hx y hy e => ?_
    obtain ⟨_, _, hx⟩ := List.mem_flatMap.1 hx
    obtain ⟨_, _, rfl⟩ := List.mem_map.1 hx
    obtain ⟨_, _, hy⟩ := List.mem_flatMap.1 hy
    obtain ⟨_, _, rfl⟩ := List.mem_map.1 hy
    injection e with e _ _
    omega
theorem okTk_cp {t : Tk} (h : SL.okTk t = true) : 1 ≤ t.cost ∧ t.cost ≤ t.per := by
  obtain ⟨h1, h2, _⟩ := SL.okTk_iff.1 h
  exact ⟨h1, h2⟩
theorem Jobs.sys {n : Nat} {tk : Nat → Tk} {R : Nat → List Int} {cap : Nat → Int → Nat} (h : Jobs n tk R cap) (M : Nat) : Ok (sysOf tk M) n (subs n R cap) := by
  have hord : ∀ x ∈ subs n R cap, ∀ y ∈ subs n R cap, (sysOf tk M).d x < (sysOf tk M).d y → (sysOf tk M).hi x y = true := fun x hx y hy hlt => by
    have h1 := mem_subs.1 hx
    have h2 := mem_subs.1 hy
    rw [d_eq (okTk_cp (h.ok _ h1.1)).1, d_eq (okTk_cp (h.ok _ h2.1)).1] at hlt
    show SL.bef (cdOf tk x) (cdOf tk y) = true
    unfold SL.bef
    rw [SL.befK_iff]
    exact .inl hlt
  have hgap : ∀ T ∈ subs n R cap, ∀ U ∈ subs n R cap, T.tk = U.tk → T.rel = U.rel ∨ T.rel + (sysOf tk M).p T.tk ≤ U.rel ∨ U.rel + (sysOf tk M).p T.tk ≤ T.rel := fun T hT U hU e => by
    have h1 := mem_subs.1 hT
    have h2 := mem_subs.1 hU
    exact h.gap T.tk h1.1 T.rel h1.2.1 U.rel (by rw [e]; exact h2.2.1)
  have hidx : ∀ T ∈ subs n R cap, 1 ≤ T.idx ∧ T.idx ≤ (sysOf tk M).c T.tk := fun T hT => by
    have h1 := mem_subs.1 hT
    have h2 := h.cap T.tk h1.1 T.rel h1.2.1
    exact ⟨h1.2.2.1, by show T.idx ≤ (tk T.tk).cost; omega⟩
  have hcp : ∀ T ∈ subs n R cap, 1 ≤ (sysOf tk M).c T.tk ∧ (sysOf tk M).c T.tk ≤ (sysOf tk M).p T.tk := fun T hT => okTk_cp (h.ok _ (mem_subs.1 hT).1)
  refine ⟨subs_nodup h, fun T hT => (mem_subs.1 hT).1, hcp, fun T hT => h.pos _ (mem_subs.1 hT).1 _ (mem_subs.1 hT).2.1, hidx, hgap, fun x => SL.bef_irr _, fun x y z => SL.bef_trans, fun x hx y hy hne => ?_, hord⟩
  by_cases htk : x.tk = y.tk
  · -- two subtasks of a task: by their deadlines
    have ok0 : Ok ⟨(sysOf tk M).c, (sysOf tk M).p, fun x y => decide ((sysOf tk M).d x < (sysOf tk M).d y), M⟩ n [x, y] := by
      have hs : ∀ T ∈ [x, y], T ∈ subs n R cap := fun T hT => by
        rcases List.mem_cons.1 hT with rfl | hT
        · exact hx
        · rw [List.mem_singleton.1 hT]; exact hy
      have key : ∀ A B : Sub, A ∈ subs n R cap → B ∈ subs n R cap → A.tk = B.tk → A ≠ B → (sysOf tk M).d A ≠ (sysOf tk M).d B := fun A B hA hB hAB hne hd => by
        obtain ⟨c1, c2⟩ := hcp A hA
        have i1 := hidx A hA
        have i2 := hidx B hB
        rw [← hAB] at i2
        have e1 : (sysOf tk M).d A * (sysOf tk M).c A.tk < (sysOf tk M).a A + (sysOf tk M).p A.tk + (sysOf tk M).c A.tk ∧ (sysOf tk M).a A + (sysOf tk M).p A.tk ≤ (sysOf tk M).d A * (sysOf tk M).c A.tk := by
          unfold Sys.d
          have f1 := Int.mul_ediv_add_emod ((sysOf tk M).a A + (sysOf tk M).p A.tk + (sysOf tk M).c A.tk - 1) ((sysOf tk M).c A.tk)
          have f2 := Int.emod_nonneg ((sysOf tk M).a A + (sysOf tk M).p A.tk + (sysOf tk M).c A.tk - 1) (b := (sysOf tk M).c A.tk) (by omega)
          have f3 := Int.emod_lt_of_pos ((sysOf tk M).a A + (sysOf tk M).p A.tk + (sysOf tk M).c A.tk - 1) (b := (sysOf tk M).c A.tk) (by omega)
          rw [Int.mul_comm] at f1
          omega
        have e2 : (sysOf tk M).d B * (sysOf tk M).c A.tk < (sysOf tk M).a B + (sysOf tk M).p A.tk + (sysOf tk M).c A.tk ∧ (sysOf tk M).a B + (sysOf tk M).p A.tk ≤ (sysOf tk M).d B * (sysOf tk M).c A.tk := by
          unfold Sys.d
          rw [← hAB]
          have f1 := Int.mul_ediv_add_emod ((sysOf tk M).a B + (sysOf tk M).p A.tk + (sysOf tk M).c A.tk - 1) ((sysOf tk M).c A.tk)
          have f2 := Int.emod_nonneg ((sysOf tk M).a B + (sysOf tk M).p A.tk + (sysOf tk M).c A.tk - 1) (b := (sysOf tk M).c A.tk) (by omega)
          have f3 := Int.emod_lt_of_pos ((sysOf tk M).a B + (sysOf tk M).p A.tk + (sysOf tk M).c A.tk - 1) (b := (sysOf tk M).c A.tk) (by omega)
          rw [Int.mul_comm] at f1
          omega
        rw [hd] at e1
        -- apart by a period
        have hap : (sysOf tk M).a A + (sysOf tk M).p A.tk ≤ (sysOf tk M).a B ∨ (sysOf tk M).a B + (sysOf tk M).p A.tk ≤ (sysOf tk M).a A := by
          have ea : (sysOf tk M).a A = A.rel * (sysOf tk M).c A.tk + (A.idx - 1) * (sysOf tk M).p A.tk := rfl
          have eb : (sysOf tk M).a B = B.rel * (sysOf tk M).c A.tk + (B.idx - 1) * (sysOf tk M).p A.tk := by rw [hAB]; rfl
          rw [ea, eb]
          generalize (sysOf tk M).c A.tk = c at *
          have hg := hgap A hA B hB hAB
          generalize (sysOf tk M).p A.tk = p at *
          have q1 := mul_le_l (c := p) (by omega) (show A.idx - 1 ≤ c - 1 by omega)
          have q2 := mul_le_l (c := p) (by omega) (show B.idx - 1 ≤ c - 1 by omega)
          have q3 := mul_le_l (c := p) (by omega) (show 0 ≤ A.idx - 1 by omega)
          have q4 := mul_le_l (c := p) (by omega) (show 0 ≤ B.idx - 1 by omega)
          rw [Int.sub_mul c] at q1 q2
          rcases hg with g | g | g
          · rw [g]
            rcases Int.lt_trichotomy A.idx B.idx with g2 | g2 | g2
            · have := mul_le_l (c := p) (by omega) (show A.idx - 1 + 1 ≤ B.idx - 1 by omega)
              rw [Int.add_mul] at this
              left; omega
            · exact absurd (by cases A; cases B; simp_all) hne
            · have := mul_le_l (c := p) (by omega) (show B.idx - 1 + 1 ≤ A.idx - 1 by omega)
              rw [Int.add_mul] at this
              right; omega
          · have := mul_le_l (c := c) (by omega) g
            rw [Int.add_mul, Int.mul_comm p] at this
            left; omega
          · have := mul_le_l (c := c) (by omega) g
            rw [Int.add_mul, Int.mul_comm p] at this
            right; omega
        omega
      refine ⟨?_, fun T hT => (mem_subs.1 (hs T hT)).1, fun T hT => hcp T (hs T hT), fun T hT => h.pos _ (mem_subs.1 (hs T hT)).1 _ (mem_subs.1 (hs T hT)).2.1, fun T hT => hidx T (hs T hT), fun T hT U hU => hgap T (hs T hT) U (hs U hU), fun x => by simp, fun x y z h1 h2 => by simp at *; omega, fun u hu v hv huv => ?_, fun u hu v hv huv => decide_eq_true huv⟩
      · rw [List.nodup_cons]
        exact ⟨by simpa using hne, by simp⟩
      · have huv' : u.tk = v.tk := by
          simp only [List.mem_cons, List.not_mem_nil, or_false] at hu hv
          rcases hu with rfl | rfl <;> rcases hv with rfl | rfl <;> simp [htk]
        have := key u v (hs u hu) (hs v hv) huv' huv
        simp only [decide_eq_true_eq]
        omega
    have := ok0.tot x (by simp) y (by simp) hne
    simp only [decide_eq_true_eq] at this
    rcases this with h1 | h1
    · exact .inl (hord x hx y hy h1)
    · exact .inr (hord y hy x hx h1)
  · cases hb : SL.bef (cdOf tk x) (cdOf tk y) with
    | true => exact .inl hb
    | false => exact .inr (SL.bef_total (by exact htk) hb)
theorem gend_sl (t : Tk) (m : Int) : SL.gend t m = gend t.cost t.per m := rfl
/-- The closed form of the group deadline: the first end of a group from the deadline on. -/
theorem grp_first {t : Tk} {i : Int} (hw : SL.okW t i) (hh : SL.heavy t = true) : ∃ m, 1 ≤ m ∧ m ≤ t.per - t.cost ∧ SL.grp t i = gend t.cost t.per m ∧ SL.winD t i ≤ SL.grp t i ∧ ∀ k, 1 ≤ k → k < m → gend t.cost t.per k < SL.winD t i := by
  obtain ⟨d1, d2⟩ := SL.winD_bounds hw
  obtain ⟨hv, hi1, hi2⟩ := hw
  obtain ⟨v1, v2, v3⟩ := SL.okTk_iff.1 hv
  obtain ⟨h1, h2⟩ := SL.heavy_iff.1 hh
  have hg : 0 < t.per - t.cost := by omega
  obtain ⟨s0, s1, s2, s3⟩ := SL.bsr_spec (fun n => decide (SL.winD t i ≤ SL.gend t ((n : Int) + 1))) (fun a b hab h => by
    simp only [decide_eq_true_eq] at *
    exact Int.le_trans h (SL.gend_mono hg (by omega) (by omega))) (t.per - t.cost - 1).toNat 0 (t.per - t.cost - 1).toNat (by omega) (by omega) (fun k hk => by omega) (fun k _ => .inr (.inr rfl))
  unfold SL.grp
  generalize SL.bsr (fun n => decide (SL.winD t i ≤ SL.gend t ((n : Int) + 1))) (t.per - t.cost - 1).toNat 0 (t.per - t.cost - 1).toNat = q at *
  refine ⟨1 + (q : Int), by omega, by omega, rfl, ?_, fun k k1 k2 => ?_⟩
  · rcases Nat.lt_or_ge q (t.per - t.cost - 1).toNat with h | h
    · have := s3 h
      simp only [decide_eq_true_eq] at this
      rw [Int.add_comm]; exact this
    · have hlast : SL.gend t (t.per - t.cost) = t.per := by
        unfold SL.gend SL.up
        rw [SL.up_iff hg]
        rw [Int.mul_comm, Int.sub_mul]
        omega
      rw [show 1 + (q : Int) = t.per - t.cost from by omega, hlast]; exact d2
  · have h5 := s2 (k - 1).toNat (by omega)
    simp only [decide_eq_false_iff_not] at h5
    rw [show (((k - 1).toNat : Nat) : Int) + 1 = k from by omega] at h5
    exact Int.not_le.1 h5
theorem Jobs.pri {n : Nat} {tk : Nat → Tk} {R : Nat → List Int} {cap : Nat → Int → Nat} (h : Jobs n tk R cap) (M : Nat) : Pri (sysOf tk M) (subs n R cap) fun T => SL.ends (cdOf tk T) := by
  refine ⟨fun x hx y hy hhi hd hb => ?_, fun x hx hl => ?_, fun x hx h1 h2 => ?_⟩
  · have q1 := mem_subs.1 hx
    have q2 := mem_subs.1 hy
    rw [d_eq (okTk_cp (h.ok _ q1.1)).1, d_eq (okTk_cp (h.ok _ q2.1)).1] at hd
    rw [b_iff (okTk_cp (h.ok _ q2.1)).1] at hb
    rw [b_iff (okTk_cp (h.ok _ q1.1)).1]
    have hb' : SL.bef (cdOf tk x) (cdOf tk y) = true := hhi
    unfold SL.bef at hb'
    rw [SL.befK_iff] at hb'
    have e1 : SL.over (cdOf tk y).tk (cdOf tk y).idx = true := hb
    have e2 : SL.over (cdOf tk x).tk (cdOf tk x).idx = SL.over (tk x.tk) x.idx := rfl
    rw [e1, e2, hd] at hb'
    cases ho : SL.over (tk x.tk) x.idx with
    | true =>
      rw [ho] at hb'
      refine ⟨rfl, ?_⟩
      rcases hb' with h | ⟨_, h | ⟨_, h | ⟨h, _⟩⟩⟩
      · omega
      · simp at h
      · omega
      · rcases h with h | h
        · cases h
        · exact Int.le_of_eq h.symm
    | false =>
      exfalso
      rw [ho] at hb'
      rcases hb' with h | ⟨_, h | ⟨h, _⟩⟩
      · omega
      · simp at h
      · cases h
  · unfold SL.ends SL.heavy cdOf
    have : ¬ (tk x.tk).per ≤ 2 * (tk x.tk).cost := Int.not_le.2 hl
    simp only
    rw [decide_eq_false this, Bool.and_false, if_neg (by simp)]
  · have q1 := mem_subs.1 hx
    have hh : SL.heavy (tk x.tk) = true := SL.heavy_iff.2 ⟨h1, h2⟩
    have hc := h.cap x.tk q1.1 x.rel q1.2.1
    obtain ⟨m, m1, m2, m3, m4, m5⟩ := grp_first (t := tk x.tk) (i := x.idx) ⟨h.ok _ q1.1, q1.2.2.1, by omega⟩ hh
    have he : SL.ends (cdOf tk x) = x.rel + SL.grp (tk x.tk) x.idx := by
      unfold SL.ends cdOf
      simp only
      rw [hh, if_pos rfl]
    have hd : (sysOf tk M).d x = x.rel + SL.winD (tk x.tk) x.idx := d_eq (okTk_cp (h.ok _ q1.1)).1
    show ∃ m, 1 ≤ m ∧ m ≤ (tk x.tk).per - (tk x.tk).cost ∧ SL.ends (cdOf tk x) = x.rel + gend (tk x.tk).cost (tk x.tk).per m ∧ (sysOf tk M).d x ≤ SL.ends (cdOf tk x) ∧ ∀ k, 1 ≤ k → k < m → x.rel + gend (tk x.tk).cost (tk x.tk).per k < (sysOf tk M).d x
    rw [he, hd]
    exact ⟨m, m1, m2, by rw [m3], by omega, fun k k1 k2 => by have := m5 k k1 k2; omega⟩
/-- In how many slots from one on, before another one, a task has run. -/
def cntB (ran : Nat → Bool) (a : Int) (t : Nat) : Nat := (List.range t).countP fun (u : Nat) => decide (a ≤ (u : Int)) && ran u
theorem cntB_succ (ran : Nat → Bool) (a : Int) (t : Nat) : cntB ran a (t + 1) = cntB ran a t + (if a ≤ (t : Int) ∧ ran t = true then 1 else 0) := by
  unfold cntB
  rw [List.range_succ, List.countP_append, List.countP_singleton]
  congr 1
  by_cases h : a ≤ (t : Int) ∧ ran t = true
  · rw [if_pos h, if_pos (by simp [h.1, h.2])]
  · rw [if_neg h, if_neg (by simpa using h)]
/-- A schedule that is made slot by slot. -/
structure Made (n : Nat) (tk : Nat → Tk) (R : Nat → List Int) (cap : Nat → Int → Nat) (M N : Nat) (ran : Nat → Nat → Bool) (Cs : Nat → List Cd) : Prop where
  nd : ∀ t, t < N → ((Cs t).map (·.num)).Nodup
  out : ∀ t, t < N → ∀ c ∈ Cs t, ∃ T ∈ subs n R cap, c = cdOf tk T ∧ T.rel ≤ t ∧ (t : Int) < T.rel + (tk T.tk).per ∧ T.idx = cntB (fun u => ran u T.tk) T.rel t + 1 ∧ T.rel + SL.winR (tk T.tk) T.idx ≤ t
  inn : ∀ t, t < N → ∀ T ∈ subs n R cap, T.rel ≤ t → (t : Int) < T.rel + (tk T.tk).per → T.idx = cntB (fun u => ran u T.tk) T.rel t + 1 → T.rel + SL.winR (tk T.tk) T.idx ≤ t → cdOf tk T ∈ Cs t
  row : ∀ t, t < N → ∀ i, ran t i = true ↔ ∃ c ∈ Cs t, c.num = i ∧ SL.rank (Cs t) c < M
theorem cdOf_inj {tk : Nat → Tk} {T U : Sub} (h : cdOf tk T = cdOf tk U) : T = U := by
  cases T; cases U
  unfold cdOf at h
  simp only at h
  injection h with h1 _ h2 h3
  subst h1 h2 h3
  rfl
theorem Made.done {n : Nat} {tk : Nat → Tk} {R : Nat → List Int} {cap : Nat → Int → Nat} {M N : Nat} {ran : Nat → Nat → Bool} {Cs : Nat → List Cd} (h : Jobs n tk R cap) (hm : Made n tk R cap M N ran Cs)
    {K : Nat → Int} {L : Int} (hL : Load (sysOf tk M) n K L) : ∀ t, t ≤ N → ∀ T ∈ subs n R cap, (sysOf tk M).done (subs n R cap) t T = true ↔ T.idx ≤ cntB (fun u => ran u T.tk) T.rel t
  | 0, _, T, hT => by
    have := (mem_subs.1 hT).2.2.1
    simp only [Sys.done, cntB, List.range_zero, List.countP_nil]
    constructor
    · intro h; cases h
    · intro h; omega
  | t + 1, ht, T, hT => by
    have ih := Made.done h hm hL t (by omega)
    have opt := optimal hL _ (subs n R cap) rfl (h.sys M) (h.pri M)
    have ok := h.sys M
    -- who is a candidate
    have hcand : ∀ U ∈ subs n R cap, (sysOf tk M).cand (subs n R cap) ((sysOf tk M).done (subs n R cap) t) t U = true ↔ cdOf tk U ∈ Cs t := fun U hU => by
      have hU1 := mem_subs.1 hU
      have hcp := okTk_cp (h.ok _ hU1.1)
      rw [cand_iff]
      constructor
      · rintro ⟨a1, a2, a3⟩
        rw [r_eq hcp.1] at a2
        have hrel : U.rel ≤ t := by have := ok.r_ge hU; rw [r_eq hcp.1] at this; omega
        have hdl : (t : Int) < (sysOf tk M).d U := Int.not_le.1 fun hle => by have := opt U hU t hle; rw [a1] at this; cases this
        have hdp := ok.d_le hU
        have hper : (t : Int) < U.rel + (tk U.tk).per := Int.lt_of_lt_of_le hdl hdp
        refine hm.inn t (by omega) U hU hrel hper ?_ a2
        have h1 : ¬ U.idx ≤ cntB (fun u => ran u U.tk) U.rel t := fun hle => by have := (ih U hU).2 hle; rw [a1] at this; cases this
        by_cases hi : U.idx = 1
        · omega
        · have hV : (⟨U.tk, U.rel, U.idx - 1⟩ : Sub) ∈ subs n R cap := mem_subs.2 ⟨hU1.1, hU1.2.1, by simp only; omega, by simp only; omega⟩
          have hp : (sysOf tk M).pre ⟨U.tk, U.rel, U.idx - 1⟩ U = true := pre_iff.2 ⟨rfl, by
            show U.rel * (tk U.tk).cost + (U.idx - 1 - 1) * (tk U.tk).per < U.rel * (tk U.tk).cost + (U.idx - 1) * (tk U.tk).per
            rw [Int.sub_mul (U.idx - 1)]; omega⟩
          have := (ih _ hV).1 (a3 _ hV hp)
          simp only at this
          omega
      · intro hc
        obtain ⟨U', u1, u2, u3, u4, u5, u6⟩ := hm.out t (by omega) _ hc
        have := cdOf_inj u2
        subst this
        refine ⟨?_, by rw [r_eq hcp.1]; exact u6, fun A hA hp => ?_⟩
        · cases hd : (sysOf tk M).done (subs n R cap) t U with
          | false => rfl
          | true => have := (ih U hU).1 hd; omega
        · have hA1 := mem_subs.1 hA
          obtain ⟨p1, p2⟩ := pre_iff.1 hp
          rcases ok.gap A hA U hU p1 with g | g | g
          · refine (ih A hA).2 ?_
            rw [p1, g]
            have : A.idx < U.idx := by
              refine Int.not_le.1 fun hle => ?_
              have h1 := mul_le_l (c := (tk U.tk).per) (by omega) (show U.idx - 1 ≤ A.idx - 1 by omega)
              have e1 : (sysOf tk M).a A = U.rel * (tk U.tk).cost + (A.idx - 1) * (tk U.tk).per := by rw [← g, ← p1]; rfl
              have e2 : (sysOf tk M).a U = U.rel * (tk U.tk).cost + (U.idx - 1) * (tk U.tk).per := rfl
              omega
            omega
          · refine opt A hA t ?_
            have := ok.d_le hA
            omega
          · have h1 := (ok.step hA hU hp).2.2.1
            have h2 := ok.d_le hU
            have h3 := ok.r_ge hA
            obtain ⟨e1, e2, e3, e4⟩ := ok.rd hA
            have h4 : (sysOf tk M).r A < (sysOf tk M).d A := by
              obtain ⟨c1, c2⟩ := ok.cp A hA
              exact lt_of_mul (c := (sysOf tk M).c A.tk) (by omega) (by omega)
            rw [← p1] at h2
            omega
    -- its rank
    have hperm : (((subs n R cap).filter fun U => (sysOf tk M).cand (subs n R cap) ((sysOf tk M).done (subs n R cap) t) t U).map (cdOf tk)).Perm (Cs t) := by
      rw [List.perm_ext_iff_of_nodup ?_ ?_]
      · intro c
        simp only [List.mem_map, List.mem_filter]
        constructor
        · rintro ⟨U, ⟨u1, u2⟩, rfl⟩
          exact (hcand U u1).1 u2
        · intro hc
          obtain ⟨U, u1, rfl, _⟩ := hm.out t (by omega) c hc
          exact ⟨U, ⟨u1, (hcand U u1).2 hc⟩, rfl⟩
      · rw [List.nodup_iff_pairwise_ne, List.pairwise_map]
        have := (subs_nodup h).filter fun U => (sysOf tk M).cand (subs n R cap) ((sysOf tk M).done (subs n R cap) t) t U
        exact this.imp fun hne e => hne (cdOf_inj e)
      · have := hm.nd t (by omega)
        rw [List.nodup_iff_pairwise_ne, List.pairwise_map] at this
        rw [List.nodup_iff_pairwise_ne]
        exact this.imp fun hne e => hne (by rw [e])
    have hrank : ∀ U, (subs n R cap).countP (fun y => (sysOf tk M).cand (subs n R cap) ((sysOf tk M).done (subs n R cap) t) t y && (sysOf tk M).hi y U) = SL.rank (Cs t) (cdOf tk U) := fun U => by
      unfold SL.rank
      rw [← hperm.countP_eq, List.countP_map, List.countP_filter]
      refine List.countP_congr fun z _ => ?_
      show (_ && SL.bef (cdOf tk z) (cdOf tk U)) = true ↔ (SL.bef (cdOf tk z) (cdOf tk U) && _) = true
      rw [Bool.and_comm]
    have hrun : ∀ U ∈ subs n R cap, (sysOf tk M).run (subs n R cap) ((sysOf tk M).done (subs n R cap) t) t U = true ↔ cdOf tk U ∈ Cs t ∧ SL.rank (Cs t) (cdOf tk U) < M := fun U hU => by
      unfold Sys.run top
      rw [hrank U]
      simp only [Bool.and_eq_true, decide_eq_true_eq]
      rw [hcand U hU]
      exact Iff.rfl
    have hT1 := mem_subs.1 hT
    have hcp := okTk_cp (h.ok _ hT1.1)
    show ((sysOf tk M).done (subs n R cap) t T || (sysOf tk M).run (subs n R cap) ((sysOf tk M).done (subs n R cap) t) t T) = true ↔ _
    rw [cntB_succ, Bool.or_eq_true, hrun T hT]
    constructor
    · rintro (hd | ⟨hc, hr⟩)
      · have := (ih T hT).1 hd
        split <;> omega
      · obtain ⟨U', u1, u2, u3, u4, u5, u6⟩ := hm.out t (by omega) _ hc
        have := cdOf_inj u2
        subst this
        have hran : ran t T.tk = true := (hm.row t (by omega) T.tk).2 ⟨_, hc, rfl, hr⟩
        rw [if_pos ⟨u3, hran⟩]
        omega
    · intro hle
      by_cases hd : T.idx ≤ cntB (fun u => ran u T.tk) T.rel t
      · exact .inl ((ih T hT).2 hd)
      · have hif : T.rel ≤ (t : Int) ∧ ran t T.tk = true := by
          refine Classical.byContradiction fun hne => ?_
          rw [if_neg hne] at hle
          omega
        rw [if_pos hif] at hle
        obtain ⟨c, hc, hnum, hr⟩ := (hm.row t (by omega) T.tk).1 hif.2
        obtain ⟨U, u1, rfl, u3, u4, u5, u6⟩ := hm.out t (by omega) c hc
        have hUT : U.tk = T.tk := hnum
        have hg := ok.gap U u1 T hT hUT
        rcases hg with g | g | g
        · have : U = T := by
            have hidx : U.idx = T.idx := by
              rw [u5, hUT, g]; omega
            cases U; cases T; simp_all
          subst this
          exact .inr ⟨hc, hr⟩
        · exfalso
          have e : (sysOf tk M).p U.tk = (tk U.tk).per := rfl
          rw [e] at g
          omega
        · left
          refine opt T hT t ?_
          have := ok.d_le hT
          rw [← hUT] at this
          omega
/-- Every subtask runs within its window. -/
theorem Made.met {n : Nat} {tk : Nat → Tk} {R : Nat → List Int} {cap : Nat → Int → Nat} {M N : Nat} {ran : Nat → Nat → Bool} {Cs : Nat → List Cd} (h : Jobs n tk R cap) (hm : Made n tk R cap M N ran Cs)
    {K : Nat → Int} {L : Int} (hL : Load (sysOf tk M) n K L) {t : Nat} (ht : t ≤ N) {T : Sub} (hT : T ∈ subs n R cap) (hd : T.rel + SL.winD (tk T.tk) T.idx ≤ t) : T.idx ≤ cntB (fun u => ran u T.tk) T.rel t := by
  refine (Made.done h hm hL t ht T hT).1 (optimal hL _ (subs n R cap) rfl (h.sys M) (h.pri M) T hT t ?_)
  rw [d_eq (okTk_cp (h.ok _ (mem_subs.1 hT).1)).1]
  exact hd
end Go.Proofs.Ytdlbokcndbbgnaa.PD
/- The simulated schedule of a set that fits: no job is late, every subtask runs within its window. -/
namespace Go.Proofs.Ytdlbokcndbbgnaa.PD
open SL (Tk Cd Ms)
/-- The load of tasks, as a fraction. -/
def ldF (ts : List Tk) : Int × Int := ts.foldl (fun x t => (x.1 * t.per + t.cost * x.2, x.2 * t.per)) (0, 1)
theorem ldF_snoc (ts : List Tk) (t : Tk) : ldF (ts ++ [t]) = ((ldF ts).1 * t.per + t.cost * (ldF ts).2, (ldF ts).2 * t.per) := by simp [ldF]
theorem ldF_pos {ts : List Tk} (h : ∀ t ∈ ts, 1 ≤ t.per) : 0 < (ldF ts).2 := by
  have hgo : ∀ (l : List Tk) (x : Int × Int), (∀ t ∈ l, 1 ≤ t.per) → 0 < x.2 → 0 < (l.foldl (fun x t => (x.1 * t.per + t.cost * x.2, x.2 * t.per)) x).2 := fun l => by
    induction l with
    | nil => exact fun x _ h => h
    | cons t l ih => exact fun x hl hx => ih _ (fun t ht => hl t (List.mem_cons_of_mem _ ht)) (Int.mul_pos hx (by have := hl t List.mem_cons_self; omega))
  exact hgo ts (0, 1) h (by decide)
def tk0 : Tk := ⟨⟨#[]⟩, 1, 1⟩
def tkAt (ts : List Tk) (i : Nat) : Tk := ts.getD i tk0
theorem tkAt_eq {ts : List Tk} {i : Nat} {t : Tk} (h : ts[i]? = some t) : tkAt ts i = t := by unfold tkAt; rw [List.getD_eq_getElem?_getD, h]; rfl
theorem ldF_sum {ts : List Tk} (h : ∀ t ∈ ts, 1 ≤ t.per) : ∀ (k : Nat), k ≤ ts.length → ∀ m : Int, sumN (fun i => (m * (ldF (ts.take k)).2) / (tkAt ts i).per * (tkAt ts i).cost) k = m * (ldF (ts.take k)).1 ∧ ∀ i, i < k → (m * (ldF (ts.take k)).2) / (tkAt ts i).per * (tkAt ts i).per = m * (ldF (ts.take k)).2
  | 0, _, m => by simp [sumN, ldF]
  | k + 1, hk, m => by
    obtain ⟨t, ht⟩ : ∃ t, ts[k]? = some t := ⟨_, List.getElem?_eq_getElem (by omega)⟩
    have htk := tkAt_eq ht
    have hp := h t (List.mem_of_getElem? ht)
    have ih := ldF_sum h k (by omega) (m * t.per)
    have hs : ts.take (k + 1) = ts.take k ++ [t] := by rw [List.take_add_one, ht]; rfl
    rw [hs, ldF_snoc]
    simp only
    have e1 : m * ((ldF (ts.take k)).2 * t.per) = m * t.per * (ldF (ts.take k)).2 := by rw [Int.mul_assoc m, Int.mul_comm t.per]
    rw [e1]
    refine ⟨?_, fun i hi => ?_⟩
    · simp only [sumN]
      rw [ih.1, htk]
      have e2 : m * t.per * (ldF (ts.take k)).2 / t.per = m * (ldF (ts.take k)).2 := by
        rw [Int.mul_assoc m, Int.mul_comm t.per, ← Int.mul_assoc, Int.mul_ediv_cancel _ (by omega)]
      rw [e2, Int.mul_add, Int.mul_assoc m, Int.mul_assoc m, Int.mul_comm t.per, Int.mul_comm t.cost]
    · by_cases hik : i = k
      · subst hik
        rw [htk, Int.mul_assoc m, Int.mul_comm t.per, ← Int.mul_assoc, Int.mul_ediv_cancel _ (by omega)]
      · exact ih.2 i (by omega)
/-- The load is at most the number of cores. -/
def fitsP (ts : List Tk) (M : Nat) : Prop := (ldF ts).1 ≤ M * (ldF ts).2
theorem load_of {ts : List Tk} {M : Nat} (h : ∀ t ∈ ts, SL.okTk t = true) (hf : fitsP ts M) : ∃ K, Load (sysOf (tkAt ts) M) ts.length K (ldF ts).2 := by
  have hp : ∀ t ∈ ts, 1 ≤ t.per := fun t ht => by have := okTk_cp (h t ht); omega
  have hs := ldF_sum hp ts.length (Nat.le_refl _) 1
  rw [List.take_length, Int.one_mul, Int.one_mul] at hs
  have hpos := ldF_pos hp
  have hc : ∀ i, i < ts.length → 1 ≤ (tkAt ts i).cost ∧ (tkAt ts i).cost ≤ (tkAt ts i).per := fun i hi => by
    rw [tkAt_eq (List.getElem?_eq_getElem hi)]
    exact okTk_cp (h _ (List.getElem_mem hi))
  refine ⟨fun i => (ldF ts).2 / (tkAt ts i).per, hpos, hc, fun i hi => ⟨Int.ediv_nonneg (by omega) (by have := hc i hi; omega), hs.2 i hi⟩, ?_⟩
  have : sumN (fun i => (ldF ts).2 / (tkAt ts i).per * (tkAt ts i).cost) ts.length = (ldF ts).1 := hs.1
  show sumN (fun i => (ldF ts).2 / (tkAt ts i).per * (tkAt ts i).cost) ts.length ≤ (M : Int) * (ldF ts).2
  rw [this]
  exact hf
section
variable {ts : List Tk} {rs : List (List Int)} {cores n : Nat}
def relAt (rs : List (List Int)) (i : Nat) : List Int := rs.getD i []
def capAt (ts : List Tk) (i : Nat) (_ : Int) : Nat := (tkAt ts i).cost.toNat
theorem valid_parts {c : Int} (h : SL.valid ts c rs = true) : (∀ t ∈ ts, SL.okTk t = true) ∧ rs.length = ts.length ∧ SL.okRels ts rs = true := by
  unfold SL.valid at h
  simp only [Bool.and_eq_true, decide_eq_true_eq] at h
  obtain ⟨⟨⟨⟨v1, v2⟩, v3⟩, v4⟩, v5⟩ := h
  exact ⟨SL.okTs_all v1, v4, v5⟩
theorem jobs_of (h : SL.valid ts (cores : Int) rs = true) : Jobs ts.length (tkAt ts) (relAt rs) (capAt ts) := by
  obtain ⟨h1, h2, h3⟩ := valid_parts h
  have hat : ∀ i, i < ts.length → ∃ t r, ts[i]? = some t ∧ rs[i]? = some r ∧ tkAt ts i = t ∧ relAt rs i = r ∧ SL.okTk t = true ∧ SL.okRel t r = true := fun i hi => by
    have e1 := List.getElem?_eq_getElem hi
    have e2 : rs[i]? = some rs[i] := List.getElem?_eq_getElem (by omega)
    exact ⟨_, _, e1, e2, tkAt_eq e1, by unfold relAt; rw [List.getD_eq_getElem?_getD, e2]; rfl, h1 _ (List.mem_of_getElem? e1), SL.okRels_all h3 e1 e2⟩
  refine ⟨fun i hi => ?_, fun i hi r hr => ?_, fun i hi => ?_, fun i hi r hr r' hr' => ?_, fun i hi r hr => ?_⟩
  · obtain ⟨t, r, _, _, e, _, h5, _⟩ := hat i hi
    rw [e]; exact h5
  · obtain ⟨t, l, _, _, _, e, _, h6⟩ := hat i hi
    rw [e] at hr
    obtain ⟨k, hk⟩ := SL.mem_at hr
    exact SL.okRel_at h6 hk
  · obtain ⟨t, l, _, _, _, e, h5, h6⟩ := hat i hi
    rw [e, List.nodup_iff_pairwise_ne]
    exact (SL.okRel_pairwise (by have := okTk_cp h5; omega) h6).imp fun h => Int.ne_of_lt h
  · obtain ⟨t, l, _, _, e1, e2, h5, h6⟩ := hat i hi
    rw [e1]
    rw [e2] at hr hr'
    obtain ⟨k, hk⟩ := SL.mem_at hr
    obtain ⟨k', hk'⟩ := SL.mem_at hr'
    have hp : 1 ≤ t.per := by have := okTk_cp h5; omega
    rcases Nat.lt_trichotomy k k' with hlt | heq | hlt
    · exact .inr (.inl (SL.okRel_mono hp h6 hlt hk hk'))
    · subst heq
      rw [hk] at hk'
      injection hk' with hk'
      exact .inl hk'
    · exact .inr (.inr (SL.okRel_mono hp h6 hlt hk' hk))
  · unfold capAt
    obtain ⟨t, l, _, _, e, _, h5, _⟩ := hat i hi
    rw [e]
    have := okTk_cp h5
    omega
/-- The rows of the schedule. -/
def schedI (ts : List Tk) (rs : List (List Int)) (cores n : Nat) : List (List Int) := (SL.simulate ts rs cores n).1.map SL.ints
def ranI (S : List (List Int)) (t i : Nat) : Bool := SL.inn (S.getD t []) i
theorem cnt_cntB (S : List (List Int)) (i : Nat) {a : Int} (ha : 0 ≤ a) : ∀ t, t ≤ S.length → SL.cnt S i a.toNat t = cntB (fun u => ranI S u i) a t
  | 0, _ => by rw [SL.cnt_self _ _ _ _ (by omega)]; rfl
  | t + 1, ht => by
    have ih := cnt_cntB S i ha t (by omega)
    obtain ⟨r, hr⟩ : ∃ r, S[t]? = some r := ⟨_, List.getElem?_eq_getElem (by omega)⟩
    rw [cntB_succ]
    have hran : ranI S t i = SL.inn r i := by unfold ranI; rw [List.getD_eq_getElem?_getD, hr]; rfl
    by_cases hat : a.toNat ≤ t
    · rw [SL.cnt_succ hr hat, ih, hran]
      congr 1
      have : a ≤ (t : Int) := by omega
      simp [this]
    · rw [SL.cnt_self _ _ _ _ (by omega)]
      have h0 : cntB (fun u => ranI S u i) a t = 0 := by
        rw [← ih, SL.cnt_self _ _ _ _ (by omega)]
      rw [h0, if_neg (by omega)]
theorem sched_length : (schedI ts rs cores n).length = n := by
  unfold schedI
  rw [List.length_map, (SL.simulate_len ts rs cores n).1]
theorem made_of (h : SL.valid ts (cores : Int) rs = true) : Made ts.length (tkAt ts) (relAt rs) (capAt ts) cores n (ranI (schedI ts rs cores n)) (fun t => SL.candR ts rs (schedI ts rs cores n) t ts.length) := by
  obtain ⟨h1, h2, h3⟩ := valid_parts h
  have hj := jobs_of h
  have hlen : (schedI ts rs cores n).length = n := sched_length
  have hcn : ∀ i t k, (SL.canR ts rs (schedI ts rs cores n) t i).map (·.num) = k → k = [] ∨ k = [i] := fun i t k e => by
    subst e
    unfold SL.canR
    split
    · split
      · right
        unfold SL.canC
        simp only [List.map_cons, List.map_nil]
        split <;> rfl
      · left; rfl
    · left; rfl
  refine ⟨fun t _ => ?_, fun t ht c hc => ?_, fun t ht T hT h4 h5 h6 h7 => ?_, fun t ht i => ?_⟩
  · show ((SL.candR ts rs (schedI ts rs cores n) t ts.length).map (·.num)).Nodup
    unfold SL.candR
    rw [List.map_flatMap, List.nodup_iff_pairwise_ne, List.pairwise_flatMap]
    refine ⟨fun i _ => ?_, List.pairwise_lt_range.imp fun {a b} hab x hx y hy e => ?_⟩
    · rcases hcn i t _ rfl with e | e <;> rw [e] <;> simp
    · rcases hcn a t _ rfl with e1 | e1 <;> rw [e1] at hx
      · simp at hx
      · rcases hcn b t _ rfl with e2 | e2 <;> rw [e2] at hy
        · simp at hy
        · simp at hx hy; omega
  · obtain ⟨i, tt, r, x, m, hi, e1, e2, hp, hm, hw, rfl⟩ := SL.candR_mem hc
    have et := tkAt_eq e1
    have er : relAt rs i = r := by unfold relAt; rw [List.getD_eq_getElem?_getD, e2]; rfl
    unfold SL.pendR at hp
    obtain ⟨y, hy, hyx⟩ := Option.map_eq_some_iff.1 hp
    injection hyx with q1 q2
    subst q1
    have hmem := List.mem_of_find?_eq_some hy
    have hpp := List.find?_some hy
    unfold SL.pendP at hpp
    simp only [Bool.and_eq_true, decide_eq_true_eq] at hpp
    have hx0 := hj.pos i hi y (by rw [er]; exact hmem)
    have hcnt := cnt_cntB (schedI ts rs cores n) i hx0 t (by omega)
    rw [q2] at hcnt
    refine ⟨⟨i, y, (m : Int) + 1⟩, mem_subs.2 ⟨hi, by rw [er]; exact hmem, by simp only; omega, ?_⟩, by unfold cdOf; simp only; rw [et], hpp.1, by simp only; rw [et]; exact hpp.2, ?_, by simp only; rw [et]; exact hw⟩
    · unfold capAt
      simp only
      rw [et]; omega
    · simp only
      rw [← hcnt]
  · have hT1 := mem_subs.1 hT
    have e1 := List.getElem?_eq_getElem hT1.1
    have et := tkAt_eq e1
    have e2 : rs[T.tk]? = some rs[T.tk] := List.getElem?_eq_getElem (by omega)
    have er : relAt rs T.tk = rs[T.tk] := by unfold relAt; rw [List.getD_eq_getElem?_getD, e2]; rfl
    have hmem := hT1.2.1
    rw [er] at hmem
    rw [et] at h5 h7
    have hrel := SL.okRels_all h3 e1 e2
    have hx0 := hj.pos T.tk hT1.1 T.rel hT1.2.1
    have hcnt := cnt_cntB (schedI ts rs cores n) T.tk hx0 t (by omega)
    have hfind : (rs[T.tk]).find? (SL.pendP (ts[T.tk]).per t) = some T.rel := SL.find_only hmem (by unfold SL.pendP; simp only [Bool.and_eq_true, decide_eq_true_eq]; exact ⟨h4, h5⟩) (fun y hy hpy => by
      unfold SL.pendP at hpy
      simp only [Bool.and_eq_true, decide_eq_true_eq] at hpy
      have hg := hj.gap T.tk hT1.1 y (by rw [er]; exact hy) T.rel hT1.2.1
      rw [et] at hg
      omega)
    have hpend : SL.pendR ts[T.tk] rs[T.tk] (schedI ts rs cores n) T.tk t = some (T.rel, cntB (fun u => ranI (schedI ts rs cores n) u T.tk) T.rel t) := by
      unfold SL.pendR
      rw [hfind, Option.map_some, hcnt]
    have hcap : T.idx ≤ (ts[T.tk]).cost := by
      have := hj.cap T.tk hT1.1 T.rel hT1.2.1
      rw [et] at this
      omega
    show cdOf (tkAt ts) T ∈ SL.candR ts rs (schedI ts rs cores n) t ts.length
    unfold SL.candR
    rw [List.mem_flatMap]
    refine ⟨T.tk, List.mem_range.2 hT1.1, ?_⟩
    rw [SL.canR_at e1 e2, hpend]
    unfold SL.canB SL.canC
    simp only
    rw [← h6, decide_eq_true (show ((cntB (fun u => ranI (schedI ts rs cores n) u T.tk) T.rel t : Nat) : Int) < (ts[T.tk]).cost by omega), decide_eq_true h7]
    unfold cdOf
    rw [et]
    simp
  · obtain ⟨s1, _⟩ := SL.sim_ref (n := n) h
    obtain ⟨row, hrow⟩ : ∃ row, (SL.simulate ts rs cores n).1[t]? = some row := ⟨_, List.getElem?_eq_getElem (by rw [(SL.simulate_len ts rs cores n).1]; exact ht)⟩
    have hr := s1 t row hrow
    rw [SL.nextR_take] at hr
    have hran : ranI (schedI ts rs cores n) t i = SL.inn (SL.ints row) i := by
      unfold ranI schedI
      rw [List.getD_eq_getElem?_getD, List.getElem?_map, hrow]; rfl
    have hin : SL.inn (SL.ints row) i = true ↔ i ∈ row := by
      unfold SL.inn SL.ints
      rw [List.contains_iff_mem, List.mem_map]
      constructor
      · rintro ⟨a, ha, e⟩
        rw [← Int.ofNat.inj e]; exact ha
      · exact fun hi => ⟨i, hi, rfl⟩
    rw [hran, hin, hr]
    unfold SL.nextR
    rw [SL.nextL_mem]
    constructor
    · rintro ⟨_, c, c1, c2, c3⟩
      exact ⟨c, c1, c2, Int.ofNat_lt.1 c3⟩
    · rintro ⟨c, c1, c2, c3⟩
      obtain ⟨i', _, _, _, _, hi, _, _, _, _, _, rfl⟩ := SL.candR_mem c1
      exact ⟨by rw [← c2]; exact hi, _, c1, c2, by show ((SL.rank _ _ : Nat) : Int) < (cores : Int); exact Int.ofNat_lt.2 c3⟩
/-- No job is late. -/
theorem no_miss (h : SL.valid ts (cores : Int) rs = true) (hf : fitsP ts cores) : (SL.simulate ts rs cores n).2 = [] := by
  obtain ⟨h1, h2, h3⟩ := valid_parts h
  obtain ⟨_, s2⟩ := SL.sim_ref (n := n) h
  obtain ⟨K, hL⟩ := load_of h1 hf
  have hj := jobs_of h
  have hm := made_of (n := n) h
  have hlen : (schedI ts rs cores n).length = n := sched_length
  rw [s2]
  show SL.missL ts rs (schedI ts rs cores n) ((schedI ts rs cores n).length + 1) = []
  rw [hlen]
  unfold SL.missL
  rw [List.flatMap_eq_nil_iff]
  intro t ht
  rw [List.mem_range] at ht
  have hat : ∀ k tt r, ts[k]? = some tt → rs[k]? = some r → SL.missT tt r (schedI ts rs cores n) k t = [] := fun k tt r e1 e2 => by
    have hk := (List.getElem?_eq_some_iff.1 e1).1
    have et := tkAt_eq e1
    have er : relAt rs k = r := by unfold relAt; rw [List.getD_eq_getElem?_getD, e2]; rfl
    unfold SL.missT
    rw [List.filterMap_eq_nil_iff]
    intro x hx
    unfold SL.missF
    refine if_neg fun ⟨a1, a2⟩ => ?_
    have hx0 := hj.pos k hk x (by rw [er]; exact hx)
    have hcp := okTk_cp (h1 tt (List.mem_of_getElem? e1))
    rw [cnt_cntB _ k hx0 t (by omega)] at a2
    have hT : (⟨k, x, tt.cost⟩ : Sub) ∈ subs ts.length (relAt rs) (capAt ts) := mem_subs.2 ⟨hk, by rw [er]; exact hx, by simp only; omega, by unfold capAt; simp only; rw [et]; omega⟩
    have := Made.met hj hm hL (t := t) (by omega) hT (by
      show x + SL.winD (tkAt ts k) tt.cost ≤ t
      rw [et]
      have : SL.winD tt tt.cost = tt.per := by
        unfold SL.winD
        unfold SL.up
        rw [SL.up_iff (by omega)]
        rw [Int.mul_comm tt.cost, Int.sub_mul]
        omega
      omega)
    simp only at this
    omega
  have hgo : ∀ (ts' : List Tk) (rs' : List (List Int)) (i : Nat), (∀ k tt r, ts'[k]? = some tt → rs'[k]? = some r → SL.missT tt r (schedI ts rs cores n) (i + k) t = []) → SL.missAt ts' rs' (schedI ts rs cores n) i t = [] := fun ts' => by
    induction ts' with
    | nil => intro rs' i _; cases rs' <;> rfl
    | cons a ts' ih =>
      intro rs' i hh
      cases rs' with
      | nil => rfl
      | cons b rs' =>
        rw [SL.missAt, ih rs' (i + 1) (fun k tt r a1 a2 => by
          have := hh (k + 1) tt r (by simpa using a1) (by simpa using a2)
          rw [show i + 1 + k = i + (k + 1) by omega]; exact this)]
        have := hh 0 a b rfl rfl
        rw [Nat.add_zero] at this
        rw [this]; rfl
  exact hgo ts rs 0 fun k tt r a1 a2 => by rw [Nat.zero_add]; exact hat k tt r a1 a2
/-- Every subtask runs within its window. -/
theorem in_window (h : SL.valid ts (cores : Int) rs = true) (hf : fitsP ts cores) {k : Nat} {tt : Tk} {r : List Int} (e1 : ts[k]? = some tt) (e2 : rs[k]? = some r) {x : Int} (hx : x ∈ r) {t : Nat} (ht : t ≤ n) {q : Int} (hq1 : 1 ≤ q) (hq2 : q ≤ tt.cost) (hd : x + SL.winD tt q ≤ t) :
    q ≤ cntB (fun u => ranI (schedI ts rs cores n) u k) x t := by
  obtain ⟨h1, h2, h3⟩ := valid_parts h
  obtain ⟨K, hL⟩ := load_of h1 hf
  have hj := jobs_of h
  have hm := made_of (n := n) h
  have hk := (List.getElem?_eq_some_iff.1 e1).1
  have et := tkAt_eq e1
  have er : relAt rs k = r := by unfold relAt; rw [List.getD_eq_getElem?_getD, e2]; rfl
  have hT : (⟨k, x, q⟩ : Sub) ∈ subs ts.length (relAt rs) (capAt ts) := mem_subs.2 ⟨hk, by rw [er]; exact hx, hq1, by unfold capAt; simp only; rw [et]; omega⟩
  exact Made.met hj hm hL ht hT (by show x + SL.winD (tkAt ts k) q ≤ t; rw [et]; exact hd)
end
end Go.Proofs.Ytdlbokcndbbgnaa.PD
/- Where the load fits: each run of a job lies in its subtask's window, and each job is within one slot of its share. -/
namespace Go.Proofs.Ytdlbokcndbbgnaa.PD
open SL (Tk Cd)
section
variable {ts : List Tk} {rs : List (List Int)} {cores n : Nat}
/-- A run of the task while a job is on is a run of that job's next subtask. -/
theorem window_run (h : SL.valid ts (cores : Int) rs = true) (hf : fitsP ts cores) {k : Nat} {tt : Tk} {r : List Int} (e1 : ts[k]? = some tt) (e2 : rs[k]? = some r) {x : Int} (hx : x ∈ r) {u : Nat} (hu : u < n) (hxu : x ≤ u) (hup : (u : Int) < x + tt.per) (hr : ranI (schedI ts rs cores n) u k = true) :
    (cntB (fun v => ranI (schedI ts rs cores n) v k) x u : Int) + 1 ≤ tt.cost ∧ x + SL.winR tt ((cntB (fun v => ranI (schedI ts rs cores n) v k) x u : Int) + 1) ≤ u ∧ (u : Int) < x + SL.winD tt ((cntB (fun v => ranI (schedI ts rs cores n) v k) x u : Int) + 1) := by
  have hj := jobs_of h
  have hm := made_of (n := n) h
  have hk := (List.getElem?_eq_some_iff.1 e1).1
  have et := tkAt_eq e1
  have er : relAt rs k = r := by unfold relAt; rw [List.getD_eq_getElem?_getD, e2]; rfl
  obtain ⟨c, hc, hcn, _⟩ := (hm.row u hu k).1 hr
  obtain ⟨T, hT, rfl, t1, t2, t3, t4⟩ := hm.out u hu c hc
  have hTm := mem_subs.1 hT
  have hTk : T.tk = k := hcn
  rw [hTk] at t2 t3 t4 hTm
  rw [et] at t2 t4
  have hg := hj.gap k hk T.rel hTm.2.1 x (by rw [er]; exact hx)
  rw [et] at hg
  have hrel : T.rel = x := by omega
  rw [hrel] at t3 t4
  have hcap := hTm.2.2.2
  unfold capAt at hcap
  rw [et] at hcap
  have hcp := okTk_cp ((valid_parts h).1 tt (List.mem_of_getElem? e1))
  rw [t3] at hcap t4
  refine ⟨by omega, t4, ?_⟩
  rcases Int.lt_or_le (u : Int) (x + SL.winD tt ((cntB (fun v => ranI (schedI ts rs cores n) v k) x u : Int) + 1)) with hlt | hge
  · exact hlt
  · have := in_window (n := n) h hf e1 e2 hx (t := u) (by omega) (q := (cntB (fun v => ranI (schedI ts rs cores n) v k) x u : Int) + 1) (by omega) (by omega) hge
    omega
theorem last_run (ran : Nat → Bool) (x : Int) : ∀ u : Nat, 1 ≤ cntB ran x (u + 1) → ∃ v : Nat, v ≤ u ∧ x ≤ (v : Int) ∧ ran v = true ∧ cntB ran x v + 1 = cntB ran x (u + 1)
  | u, h => by
    rw [cntB_succ] at h ⊢
    by_cases hc : x ≤ (u : Int) ∧ ran u = true
    · rw [if_pos hc]
      exact ⟨u, Nat.le_refl _, hc.1, hc.2, rfl⟩
    · rw [if_neg hc] at h ⊢
      cases u with
      | zero => simp [cntB] at h
      | succ u =>
        obtain ⟨v, h1, h2, h3, h4⟩ := last_run ran x u h
        exact ⟨v, by omega, h2, h3, h4⟩
/-- Within one slot of its share. -/
theorem lag_run (h : SL.valid ts (cores : Int) rs = true) (hf : fitsP ts cores) {k : Nat} {tt : Tk} {r : List Int} (e1 : ts[k]? = some tt) (e2 : rs[k]? = some r) {x : Int} (hx : x ∈ r) {u : Nat} (hu : u < n) (hxu : x ≤ u) (hup : (u : Int) < x + tt.per) :
    -tt.per < tt.cost * ((u : Int) + 1 - x) - (cntB (fun v => ranI (schedI ts rs cores n) v k) x (u + 1) : Int) * tt.per ∧ tt.cost * ((u : Int) + 1 - x) - (cntB (fun v => ranI (schedI ts rs cores n) v k) x (u + 1) : Int) * tt.per < tt.per := by
  have hcp := okTk_cp ((valid_parts h).1 tt (List.mem_of_getElem? e1))
  have hwr := fun v (hv : v < n) (hxv : x ≤ (v : Int)) (hvp : (v : Int) < x + tt.per) hr => window_run (n := n) h hf e1 e2 hx hv hxv hvp hr
  have hin := fun (t : Nat) (ht : t ≤ n) (q : Int) (hq1 : 1 ≤ q) (hq2 : q ≤ tt.cost) hd => in_window (n := n) h hf e1 e2 hx (t := t) ht (q := q) hq1 hq2 hd
  have hlr := last_run (fun v => ranI (schedI ts rs cores n) v k) x u
  generalize hd : cntB (fun v => ranI (schedI ts rs cores n) v k) x (u + 1) = d at *
  have hy1 : 1 ≤ (u : Int) + 1 - x := by omega
  have hy2 : (u : Int) + 1 - x ≤ tt.per := by omega
  constructor
  · rcases Nat.eq_zero_or_pos d with h0 | h0
    · subst h0
      have : 0 ≤ tt.cost * ((u : Int) + 1 - x) := Int.mul_nonneg (by omega) (by omega)
      omega
    · obtain ⟨v, v1, v2, v3, v4⟩ := hlr h0
      obtain ⟨_, w2, _⟩ := hwr v (by omega) v2 (by omega) v3
      have e : (cntB (fun v => ranI (schedI ts rs cores n) v k) x v : Int) + 1 = (d : Int) := by omega
      rw [e] at w2
      unfold SL.winR at w2
      have a1 : ((d : Int) - 1) * tt.per < (((d : Int) - 1) * tt.per / tt.cost + 1) * tt.cost := Int.lt_ediv_add_one_mul_self _ (by omega)
      have a2 : (((d : Int) - 1) * tt.per / tt.cost + 1) * tt.cost ≤ ((u : Int) + 1 - x) * tt.cost := Int.mul_le_mul_of_nonneg_right (by omega) (by omega)
      have a3 : ((d : Int) - 1) * tt.per = (d : Int) * tt.per - tt.per := by rw [Int.sub_mul, Int.one_mul]
      rw [Int.mul_comm tt.cost]
      omega
  · rcases Int.lt_or_le (d : Int) tt.cost with hlt | hge
    · have hnot : ¬ x + SL.winD tt ((d : Int) + 1) ≤ ((u + 1 : Nat) : Int) := fun hle => by
        have := hin (u + 1) (by omega) ((d : Int) + 1) (by omega) (by omega) hle
        omega
      have b1 := ((SL.up_iff (a := ((d : Int) + 1) * tt.per) (b := tt.cost) (t := SL.winD tt ((d : Int) + 1)) (by omega)).1 rfl).2
      have b2 : ((u : Int) + 1 - x) * tt.cost ≤ (SL.winD tt ((d : Int) + 1) - 1) * tt.cost := Int.mul_le_mul_of_nonneg_right (by omega) (by omega)
      rw [Int.add_mul, Int.one_mul] at b1
      rw [Int.mul_comm tt.cost]
      omega
    · have a1 : tt.cost * ((u : Int) + 1 - x) ≤ tt.cost * tt.per := Int.mul_le_mul_of_nonneg_left hy2 (by omega)
      have a2 : tt.cost * tt.per ≤ (d : Int) * tt.per := Int.mul_le_mul_of_nonneg_right hge (by omega)
      omega
end
end Go.Proofs.Ytdlbokcndbbgnaa.PD
