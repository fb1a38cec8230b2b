/- The model of a plan in memory; the start of a slot. -/
import Derived.Test.YtpmbhdheeaejgaaGreatDoorSlC
import Derived.Maps.AppendAt
import Derived.Deep.AppendLies
namespace Go.Proofs.YtpmbhdheeaejgaaGreatDoor
open Go.RowKit Go.Maps
open SL (Tk Jb Ms Cd)
/-- All blocks but those of some element types are as they were. -/
def FxT (T : List TypeId) (w w' : World) : Prop := w.heap.size ≤ w'.heap.size ∧ ∀ (i : Nat) (cs : Array Value) (t : TypeId) (m : Nat × Nat), w.heap[i]? = some (.cells cs t m) → t ∉ T → w'.heap[i]? = some (.cells cs t m)
section
variable {T : List TypeId} {w w' w'' : World}
theorem FxT.refl (T : List TypeId) (w : World) : FxT T w w := ⟨Nat.le_refl _, fun _ _ _ _ h _ => h⟩
theorem FxT.trans (h : FxT T w w') (k : FxT T w' w'') : FxT T w w'' := ⟨Nat.le_trans h.1 k.1, fun i cs t m hi ht => k.2 i cs t m (h.2 i cs t m hi ht) ht⟩
theorem FxT.alloc (h : FxT T w w') (o : Obj) : FxT T w (w'.alloc o) := ⟨Nat.le_trans h.1 (by simp), fun i cs t m hi ht => by
  have h1 := h.2 i cs t m hi ht
  rw [Below.heap_alloc w' o i (Array.getElem?_eq_some_iff.1 h1).1, h1]⟩
theorem FxT.drewN (h : FxT T w w') (n : Nat) : FxT T w (w'.drewN n) := h
theorem FxT.below (h : FxT T w w') (k : Below w'.heap.size w' w'') : FxT T w w'' := ⟨Nat.le_trans h.1 k.size, fun i cs t m hi ht => by
  have h1 := h.2 i cs t m hi ht
  rw [k.block i (Array.getElem?_eq_some_iff.1 h1).1, h1]⟩
theorem FxT.set (h : FxT T w w') {g : Nat} {t : TypeId} {cs : Array Value} (hb : Blk w' g t cs) (ht : t ∈ T) (j : Nat) (v : Value) : FxT T w (w'.setCell ⟨g, j, none⟩ v) := ⟨by simpa [World.setCell] using h.1, fun i cs' t' m hi ht' => by
  have h1 := h.2 i cs' t' m hi ht'
  rw [Below.heap_setCell w' ⟨g, j, none⟩ v i (by
    rintro rfl
    unfold Blk at hb
    rw [hb] at h1
    injection h1 with h1
    injection h1 with _ h2
    exact ht' (h2 ▸ ht)), h1]⟩
theorem FxT.grown (h : FxT T w w') {row : Option Nat} (hg : w'.grownBy w'' row) (hr : ∀ k, row = some k → ∃ cs t m, w'.heap[k]? = some (.cells cs t m) ∧ t ∈ T) : FxT T w w'' := ⟨Nat.le_trans h.1 hg.size, fun i cs' t' m hi ht' => by
  have h1 := h.2 i cs' t' m hi ht'
  rw [hg.block i (Array.getElem?_eq_some_iff.1 h1).1 (by
    intro e
    obtain ⟨cs, t, m', h2, h3⟩ := hr i e.symm
    rw [h2] at h1
    injection h1 with h1
    injection h1 with _ h4
    exact ht' (h4 ▸ h3)), h1]⟩
theorem Blk.fx {g : Nat} {t : TypeId} {cs : Array Value} (h : Blk w g t cs) (k : FxT T w w') (ht : t ∉ T) : Blk w' g t cs := k.2 g cs t (0, 0) h ht
theorem own_row {base : Nat} {e : TypeId} {size : Nat} {v : Value} {n : Nat} {xs : List Value} (h : w.ownsRow base e size v n xs) (ht : e ∈ T) : ∀ k, v.ownBlock = some k → ∃ cs t m, w.heap[k]? = some (.cells cs t m) ∧ t ∈ T := fun k hk => by
  rcases h.2 with ⟨rfl, _⟩ | ⟨g, cap, cur, rfl, _, hg, _⟩
  · cases hk
  · injection hk with hk
    subst hk
    exact ⟨_, _, _, hg, ht⟩
theorem own_fx {base : Nat} {e : TypeId} {size : Nat} {v : Value} {n : Nat} {xs : List Value} (h : w.ownsRow base e size v n xs) (k : FxT T w w') (ht : e ∉ T) : w'.ownsRow base e size v n xs := by
  refine ⟨h.1, ?_⟩
  rcases h.2 with h1 | ⟨g, cap, cur, h1, h2, h3, h4⟩
  · exact .inl h1
  · exact .inr ⟨g, cap, cur, h1, h2, k.2 _ _ _ _ h3 ht, h4⟩
end
theorem blk_ne {w : World} {g g' : Nat} {t t' : TypeId} {cs cs' : Array Value} (h : Blk w g t cs) (h' : Blk w g' t' cs') (ht : t ≠ t') : g ≠ g' := by
  rintro rfl
  unfold Blk at h h'
  rw [h] at h'
  injection h' with h'
  injection h' with _ e
  exact ht e
/-- Rows of chunks. -/
theorem flat_at {α : Type} (d : Nat) (f : α → List Value) (hf : ∀ x, (f x).length = d) : ∀ (l : List α) (k m : Nat) (x : α), l[k]? = some x → m < d → (l.flatMap f)[k * d + m]? = (f x)[m]?
  | [], _, _, _, h, _ => by simp at h
  | y :: l, 0, m, x, h, hm => by
    simp at h; subst h
    rw [List.flatMap_cons, List.getElem?_append_left (by rw [hf]; omega)]
    simp
  | y :: l, k + 1, m, x, h, hm => by
    have ih := flat_at d f hf l k m x (by simpa using h) hm
    rw [List.flatMap_cons, List.getElem?_append_right (by rw [hf, Nat.add_mul]; omega), ← ih, hf]
    congr 1
    rw [Nat.add_mul]; omega
theorem flat_len {α : Type} (d : Nat) (f : α → List Value) (hf : ∀ x, (f x).length = d) : ∀ (l : List α), (l.flatMap f).length = l.length * d
  | [] => by simp
  | y :: l => by rw [List.flatMap_cons, List.length_append, hf, flat_len d f hf l, List.length_cons, Nat.add_mul]; omega
theorem flat_set {α : Type} (d : Nat) (f : α → List Value) (hf : ∀ x, (f x).length = d) : ∀ (l : List α) (k m : Nat) (x y : α) (v : Value), l[k]? = some x → m < d → f y = (f x).set m v → (l.flatMap f).set (k * d + m) v = (l.set k y).flatMap f
  | [], _, _, _, _, _, h, _, _ => by simp at h
  | z :: l, 0, m, x, y, v, h, hm, hy => by
    simp at h; subst h
    rw [List.flatMap_cons, List.set_cons_zero, List.flatMap_cons, hy, List.set_append_left _ _ (by rw [hf]; omega)]
    simp
  | z :: l, k + 1, m, x, y, v, h, hm, hy => by
    have ih := flat_set d f hf l k m x y v (by simpa using h) hm hy
    rw [List.flatMap_cons, List.set_cons_succ, List.flatMap_cons, ← ih, List.set_append_right _ _ (by rw [hf, Nat.add_mul]; omega), hf]
    congr 2
    rw [Nat.add_mul]; omega
def jbL (j : Jb) : List Value := [.bool j.live, .int .i64 j.rel, .int .i64 j.done, .int .i64 (j.next : Int)]
def jbC (js : List Jb) : Array Value := (js.flatMap jbL).toArray
def msL (m : Ms) : List Value := [.int .i64 (m.task : Int), .int .i64 m.rel, .int .i64 m.done]
def msC (l : List Ms) : List Value := l.flatMap msL
/-- A slice of slices of ints. -/
def RelV (w : World) (v : Value) (rs : List (List Int)) : Prop :=
  ∃ (A : Option Addr) (c : Nat) (hs : List Value), v = .slice A rs.length c ∧ hs.length = rs.length ∧ Row w A hs ∧ ∀ (i : Nat) (r : List Int), rs[i]? = some r → ∃ (Ai : Option Addr) (ci : Nat), hs[i]? = some (Value.slice Ai r.length ci) ∧ Row w Ai (r.map (Value.int .i64))
theorem RelV.below {w w' : World} {v : Value} {rs : List (List Int)} (h : RelV w v rs) (hb : Below w.heap.size w w') : RelV w' v rs := by
  obtain ⟨A, c, hs, h1, h2, h3, h4⟩ := h
  refine ⟨A, c, hs, h1, h2, h3.below hb, fun i r hi => ?_⟩
  obtain ⟨Ai, ci, h5, h6⟩ := h4 i r hi
  exact ⟨Ai, ci, h5, h6.below hb⟩
theorem Row.at {w : World} {A : Option Addr} {xs : List Value} (h : Row w A xs) {k : Nat} {v : Value} (hk : xs[k]? = some v) : ∃ b o, A = some ⟨b, o, none⟩ ∧ b < w.heap.size ∧ w.cell? ⟨b, o + k, none⟩ = some v := by
  obtain ⟨b, o, hA, hb, hc⟩ := h (fun e => by rw [e] at hk; simp at hk)
  exact ⟨b, o, hA, hb, hc k v hk⟩
/-- A plan as it lies in memory when the model is made. -/
structure Mdl where
  ts : List Tk
  A : Option Addr
  c : Nat
  rs : List (List Int)
  rA : Option Addr
  rc : Nat
def Mdl.tv (M : Mdl) : Value := .slice M.A M.ts.length M.c
def Mdl.rv (M : Mdl) : Value := .slice M.rA M.rs.length M.rc
/-- What is known of it throughout. -/
structure MC (B : World) (M : Mdl) : Prop where
  ok : SL.okTs M.ts = true
  len : M.rs.length = M.ts.length
  oks : SL.okRels M.ts M.rs = true
  row : Row B M.A (tkRow M.ts)
  rel : RelV B M.rv M.rs
def okJ (j : Jb) : Prop := 0 ≤ j.rel ∧ j.rel ≤ 100000 ∧ 0 ≤ j.done ∧ j.done ≤ 1000 ∧ j.next ≤ 10000
theorem begJs_take : ∀ (ts : List Tk) (rs : List (List Int)) (slot : Int) (js : List Jb) (k : Nat) (t : Tk) (r : List Int) (j : Jb), ts[k]? = some t → rs[k]? = some r → js[k]? = some j →
    SL.begJs (ts.take (k + 1)) (rs.take (k + 1)) slot (js.take (k + 1)) = SL.begJs (ts.take k) (rs.take k) slot (js.take k) ++ [SL.begJ t r slot j]
  | [], _, _, _, _, _, _, _, h, _, _ => by simp at h
  | _ :: _, [], _, _, _, _, _, _, _, h, _ => by simp at h
  | _ :: _, _ :: _, _, [], _, _, _, _, _, _, h => by simp at h
  | t0 :: ts, r0 :: rs, slot, j0 :: js, 0, t, r, j, h1, h2, h3 => by
    simp at h1 h2 h3; subst h1 h2 h3; simp [SL.begJs]
  | t0 :: ts, r0 :: rs, slot, j0 :: js, k + 1, t, r, j, h1, h2, h3 => by
    rw [List.take_succ_cons, List.take_succ_cons, List.take_succ_cons, SL.begJs, begJs_take ts rs slot js k t r j (by simpa using h1) (by simpa using h2) (by simpa using h3)]
    simp [SL.begJs]
theorem begMs_take : ∀ (ts : List Tk) (slot : Int) (i : Nat) (js : List Jb) (k : Nat) (t : Tk) (j : Jb), ts[k]? = some t → js[k]? = some j →
    SL.begMs (ts.take (k + 1)) slot i (js.take (k + 1)) = SL.begMs (ts.take k) slot i (js.take k) ++ SL.begM t slot (i + k) j
  | [], _, _, _, _, _, _, h, _ => by simp at h
  | _ :: _, _, _, [], _, _, _, _, h => by simp at h
  | t0 :: ts, slot, i, j0 :: js, 0, t, j, h1, h3 => by
    simp at h1 h3; subst h1 h3; simp [SL.begMs]
  | t0 :: ts, slot, i, j0 :: js, k + 1, t, j, h1, h3 => by
    rw [List.take_succ_cons, List.take_succ_cons, SL.begMs, begMs_take ts slot (i + 1) js k t j (by simpa using h1) (by simpa using h3)]
    simp [SL.begMs, Nat.add_assoc, Nat.add_comm 1 k]
theorem okJ_mk {a : Bool} {b c : Int} {d : Nat} (h1 : 0 ≤ b) (h2 : b ≤ 100000) (h3 : 0 ≤ c) (h4 : c ≤ 1000) (h5 : d ≤ 10000) : okJ ⟨a, b, c, d⟩ := ⟨h1, h2, h3, h4, h5⟩
theorem set_mid {α : Type} (D R : List α) (x y : α) (k : Nat) (h : D.length = k) : (D ++ x :: R).set k y = D ++ y :: R := by
  subst h
  rw [List.set_append_right _ _ (Nat.le_refl _), Nat.sub_self, List.set_cons_zero]
theorem get_mid {α : Type} (D R : List α) (x : α) (k : Nat) (h : D.length = k) : (D ++ x :: R)[k]? = some x := by
  subst h
  rw [List.getElem?_append_right (Nat.le_refl _), Nat.sub_self, List.getElem?_cons_zero]
theorem own_set {w : World} {base : Nat} {e : TypeId} {size : Nat} {v : Value} {n : Nat} {xs : List Value} (h : w.ownsRow base e size v n xs) {g : Nat} {t : TypeId} {cs : Array Value} (hb : Blk w g t cs) (ht : t ≠ e) (j : Nat) (u : Value) : (w.setCell ⟨g, j, none⟩ u).ownsRow base e size v n xs :=
  own_fx h ((FxT.refl [t] w).set hb (by simp) j u) (by simp; exact fun e' => ht e'.symm)
theorem begMs_len : ∀ (ts : List Tk) (slot : Int) (i : Nat) (js : List Jb), (SL.begMs ts slot i js).length ≤ ts.length
  | [], _, _, _ => by simp [SL.begMs]
  | _ :: _, _, _, [] => by simp [SL.begMs]
  | t :: ts, slot, i, j :: js => by
    have := begMs_len ts slot (i + 1) js
    rw [SL.begMs, List.length_append, List.length_cons]
    have h1 : (SL.begM t slot i j).length ≤ 1 := by unfold SL.begM; split <;> simp
    omega
theorem okRels_at : ∀ (ts : List Tk) (rs : List (List Int)) (k : Nat) (t : Tk) (r : List Int), SL.okRels ts rs = true → ts[k]? = some t → rs[k]? = some r → SL.okRel t r = true
  | [], _, _, _, _, _, h, _ => by simp at h
  | _ :: _, [], _, _, _, _, _, h => by simp at h
  | t0 :: ts, r0 :: rs, 0, t, r, h, h1, h2 => by
    simp at h1 h2; subst h1 h2
    simp [SL.okRels] at h; exact h.1
  | t0 :: ts, r0 :: rs, k + 1, t, r, h, h1, h2 => by
    simp [SL.okRels] at h
    exact okRels_at ts rs k t r h.2 (by simpa using h1) (by simpa using h2)
end Go.Proofs.YtpmbhdheeaejgaaGreatDoor
