/- The slots' model as plain functions: windows, priorities, deadlines and releases slot by slot, the schedule, its check. -/
import Derived.Lib.ItoaNum
namespace Go.Proofs.YtpmbhdheeaejgaaGreatDoor.SL
structure Tk where
  name : ByteArray
  cost : Int
  per : Int
structure Jb where
  live : Bool
  rel : Int
  done : Int
  next : Nat
structure Ms where
  task : Nat
  rel : Int
  done : Int
structure Cd where
  num : Nat
  tk : Tk
  rel : Int
  idx : Int
/-- A valid task. -/
def okTk (t : Tk) : Bool := !(decide (t.cost < 1) || decide (t.per < t.cost) || decide (1000 < t.per))
theorem okTk_iff {t : Tk} : okTk t = true ↔ 1 ≤ t.cost ∧ t.cost ≤ t.per ∧ t.per ≤ 1000 := by
  unfold okTk; simp; omega
/-- A valid set of tasks. -/
def okTs (ts : List Tk) : Bool := decide (ts.length ≤ 40) && ts.all okTk
/-- A release is not negative, and a period behind the one before. -/
def okAt (per : Int) (r : List Int) (k : Nat) : Bool := decide (0 ≤ r.getD k 0) && (decide (k = 0) || decide (per ≤ r.getD k 0 - r.getD (k - 1) 0))
def okRel (t : Tk) (r : List Int) : Bool := decide (r.length ≤ 10000) && (List.range r.length).all (okAt t.per r)
def okRels : List Tk → List (List Int) → Bool
  | t :: ts, r :: rs => okRel t r && okRels ts rs
  | _, _ => true
/-- A valid plan. -/
def valid (ts : List Tk) (cores : Int) (rs : List (List Int)) : Bool :=
  okTs ts && decide (1 ≤ cores) && decide (cores ≤ 8) && decide (rs.length = ts.length) && okRels ts rs
/-- A window's first slot and its deadline. -/
def winR (t : Tk) (i : Int) : Int := (i - 1) * t.per / t.cost
def up (a b : Int) : Int := (a + b - 1) / b
def winD (t : Tk) (i : Int) : Int := up (i * t.per) t.cost
def okW (t : Tk) (i : Int) : Prop := okTk t = true ∧ 1 ≤ i ∧ i ≤ t.cost
def over (t : Tk) (i : Int) : Bool := i * t.per % t.cost != 0
def heavy (t : Tk) : Bool := decide (t.cost < t.per) && decide (t.per ≤ 2 * t.cost)
/-- sort.Search. -/
def bsr (f : Nat → Bool) : Nat → Nat → Nat → Nat
  | 0, i, _ => i
  | k + 1, i, j => if i < j then (if f ((i + j) / 2) then bsr f k i ((i + j) / 2) else bsr f k ((i + j) / 2 + 1) j) else i
/-- The time at which the group behind the m-th gap ends. -/
def gend (t : Tk) (m : Int) : Int := up (m * t.per) (t.per - t.cost)
def grp (t : Tk) (i : Int) : Int :=
  gend t (1 + (bsr (fun n => decide (winD t i ≤ gend t ((n : Int) + 1))) (t.per - t.cost - 1).toNat 0 (t.per - t.cost - 1).toNat : Nat))
def ends (c : Cd) : Int := if heavy c.tk then c.rel + grp c.tk c.idx else 0
def dl (c : Cd) : Int := c.rel + winD c.tk c.idx
def befK (d d' : Int) (o o' : Bool) (e e' : Int) (n n' : Nat) : Bool :=
  if d = d' then (if o = o' then (if o && decide (e ≠ e') then decide (e' < e) else decide (n < n')) else o) else decide (d < d')
theorem befK_iff (d d' : Int) (o o' : Bool) (e e' : Int) (n n' : Nat) : befK d d' o o' e e' n n' = true ↔
    d < d' ∨ (d = d' ∧ ((o = true ∧ o' = false) ∨ (o = o' ∧ ((o = true ∧ e' < e) ∨ ((o = false ∨ e = e') ∧ n < n'))))) := by
  unfold befK
  by_cases h1 : d = d'
  · rw [if_pos h1]
    cases o <;> cases o'
    · simp [h1]
    · simp [h1]
    · simp [h1]
    · by_cases h2 : e = e'
      · simp [h1, h2]
      · simp [h1, h2]
  · rw [if_neg h1]
    simp [h1]
/-- Whether a has priority over b. -/
def bef (a b : Cd) : Bool := befK (dl a) (dl b) (over a.tk a.idx) (over b.tk b.idx) (ends a) (ends b) a.num b.num
/-- The comparison that the sort is given. -/
def cmp (a b : Cd) : Int := if a.num = b.num then 0 else if bef a b then -1 else 1
theorem bef_irr (a : Cd) : bef a a = false := by
  rw [← Bool.not_eq_true]
  unfold bef
  rw [befK_iff]
  generalize over a.tk a.idx = o
  cases o <;> simp
theorem bef_trans {a b c : Cd} (h1 : bef a b = true) (h2 : bef b c = true) : bef a c = true := by
  unfold bef at *
  rw [befK_iff] at *
  generalize over a.tk a.idx = o1 at *
  generalize over b.tk b.idx = o2 at *
  generalize over c.tk c.idx = o3 at *
  generalize dl a = d1 at *
  generalize dl b = d2 at *
  generalize dl c = d3 at *
  generalize ends a = e1 at *
  generalize ends b = e2 at *
  generalize ends c = e3 at *
  cases o1 <;> cases o2 <;> cases o3 <;> simp only [reduceCtorEq, true_and, false_and, and_false, and_true, false_or, or_false, true_or] at h1 h2 ⊢ <;> omega
/-- Two candidates with different numbers: one has priority. -/
theorem bef_total {a b : Cd} (h : a.num ≠ b.num) (h1 : bef a b = false) : bef b a = true := by
  rw [← Bool.not_eq_true] at h1
  unfold bef at *
  rw [befK_iff] at *
  generalize over a.tk a.idx = o1 at *
  generalize over b.tk b.idx = o2 at *
  generalize dl a = d1 at *
  generalize dl b = d2 at *
  generalize ends a = e1 at *
  generalize ends b = e2 at *
  cases o1 <;> cases o2 <;> simp only [reduceCtorEq, true_and, false_and, and_false, and_true, false_or, or_false, true_or] at h1 ⊢ <;> omega
/-- One task's step at the start of a slot. -/
def dead (t : Tk) (slot : Int) (j : Jb) : Bool := j.live && decide (t.per ≤ slot - j.rel)
def missed (t : Tk) (slot : Int) (j : Jb) : Bool := dead t slot j && decide (j.done < t.cost)
def begJ (t : Tk) (r : List Int) (slot : Int) (j : Jb) : Jb :=
  if r[j.next]? = some slot then ⟨true, slot, 0, j.next + 1⟩ else { j with live := j.live && !dead t slot j }
def begM (t : Tk) (slot : Int) (i : Nat) (j : Jb) : List Ms := if missed t slot j then [⟨i, j.rel, j.done⟩] else []
def begJs : List Tk → List (List Int) → Int → List Jb → List Jb
  | t :: ts, r :: rs, slot, j :: js => begJ t r slot j :: begJs ts rs slot js
  | _, _, _, _ => []
def begMs : List Tk → Int → Nat → List Jb → List Ms
  | t :: ts, slot, i, j :: js => begM t slot i j ++ begMs ts slot (i + 1) js
  | _, _, _, _ => []
theorem begJs_len : ∀ (ts : List Tk) (rs : List (List Int)) (slot : Int) (js : List Jb), ts.length = js.length → rs.length = js.length → (begJs ts rs slot js).length = js.length
  | [], _, _, [], _, _ => by simp [begJs]
  | [], _, _, _ :: _, h1, _ => by simp at h1
  | _ :: _, _, _, [], h1, _ => by simp at h1
  | _ :: _, [], _, _ :: _, _, h2 => by simp at h2
  | t :: ts, r :: rs, slot, j :: js, h1, h2 => by simp [begJs, begJs_len ts rs slot js (by simpa using h1) (by simpa using h2)]
def pend (t : Tk) (j : Jb) : Bool := j.live && decide (j.done < t.cost)
def elig (t : Tk) (slot : Int) (j : Jb) : Bool := pend t j && decide (j.rel + winR t (j.done + 1) ≤ slot)
def mkCd (i : Nat) (t : Tk) (j : Jb) : Cd := ⟨i, t, j.rel, j.done + 1⟩
def cands : List Tk → Nat → Int → List Jb → List Cd
  | t :: ts, i, slot, j :: js => (if elig t slot j then [mkCd i t j] else []) ++ cands ts (i + 1) slot js
  | _, _, _, _ => []
/-- The candidates by priority. -/
def srt (l : List Cd) : List Cd := ((List.finRange l.length).mergeSort (fun x y => !bef (l.get y) (l.get x))).map l.get
def chosen (ts : List Tk) (cores : Nat) (slot : Int) (js : List Jb) : List Nat := ((srt (cands ts 0 slot js)).take cores).map (·.num)
def bump1 (js : List Jb) (i : Nat) : List Jb := js.modify i fun j => { j with done := j.done + 1 }
def bump (js : List Jb) (l : List Nat) : List Jb := l.foldl bump1 js
def rowOf (l : List Nat) : List Nat := l.mergeSort (fun a b => decide (a ≤ b))
/-- So many slots from one on. -/
def simS (ts : List Tk) (rs : List (List Int)) (cores : Nat) : Nat → Nat → List Jb → List (List Nat) × List Jb × List Ms
  | 0, _, js => ([], js, [])
  | n + 1, slot, js =>
    let js1 := begJs ts rs slot js
    let ch := chosen ts cores slot js1
    let r := simS ts rs cores n (slot + 1) (bump js1 ch)
    (rowOf ch :: r.1, r.2.1, begMs ts slot 0 js ++ r.2.2)
def jb0 : Jb := ⟨false, 0, 0, 0⟩
def simulate (ts : List Tk) (rs : List (List Int)) (cores n : Nat) : List (List Nat) × List Ms :=
  let r := simS ts rs cores n 0 (List.replicate ts.length jb0)
  (r.1, r.2.2 ++ begMs ts n 0 r.2.1)
/-- The error of a row: 0, or Form, Load, State. -/
def asc (n : Nat) : Int → List Int → Bool
  | _, [] => true
  | b, i :: l => decide (b < i) && decide (i < n) && asc n i l
def pendAt (ts : List Tk) (js : List Jb) (i : Int) : Bool := match ts[i.toNat]?, js[i.toNat]? with
  | some t, some j => pend t j
  | _, _ => false
def chkRow (ts : List Tk) (cores : Int) (js : List Jb) (r : List Int) : Nat :=
  if asc ts.length (-1) r then (if cores < r.length then 20 else if r.all (pendAt ts js) then 0 else 14) else 3
def chkS (ts : List Tk) (rs : List (List Int)) (cores : Int) : List (List Int) → Nat → List Jb → List Ms × Nat
  | [], slot, js => (begMs ts slot 0 js, 0)
  | r :: S, slot, js =>
    let js1 := begJs ts rs slot js
    let e := chkRow ts cores js1 r
    if e = 0 then
      let q := chkS ts rs cores S (slot + 1) (bump js1 (r.map Int.toNat))
      (if q.2 = 0 then begMs ts slot 0 js ++ q.1 else [], q.2)
    else ([], e)
end Go.Proofs.YtpmbhdheeaejgaaGreatDoor.SL
