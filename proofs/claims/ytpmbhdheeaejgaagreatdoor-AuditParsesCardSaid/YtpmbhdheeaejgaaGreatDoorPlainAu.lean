/- The auditor as plain functions. -/
import Derived.Test.YtpmbhdheeaejgaaGreatDoorPlainSl2
namespace Go.Proofs.YtpmbhdheeaejgaaGreatDoor.AU
open SL (Tk Cd srt winR)
/-- A task with its last job. -/
structure Pr where
  jobs : Nat
  live : Bool
  rel : Int
  ran : Int
  last : Int
  core : Int
/-- A required event of the present slot. -/
structure Rq where
  core : Int
  task : Nat
  job : Int
  value : Int
/-- An event of a trace. -/
structure Ev where
  slot : Int
  core : Int
  task : Int
  job : Int
  kind : Nat
  value : Int
  cycle : Int
  port : Int
structure Mo where
  ps : List Pr
  slot : Nat
  phase : Nat
  req : List Rq
  last : Int
def pr0 : Pr := ⟨0, false, 0, 0, 0, 0⟩
def mo0 (n : Nat) : Mo := ⟨List.replicate n pr0, 0, 1, [], -1⟩
def phaseOf (k : Nat) : Nat := if k = 6 then 1 else if k = 1 then 2 else if k = 2 then 3 else if k = 3 ∨ k = 4 ∨ k = 7 then 4 else if k = 5 then 5 else 0
/-- What a function finds in the first places. -/
def overI {α : Type} (n : Nat) (f : Nat → Option α) : List α := (List.range n).filterMap f
theorem overI_zero {α : Type} (f : Nat → Option α) : overI 0 f = [] := rfl
theorem overI_succ {α : Type} (n : Nat) (f : Nat → Option α) : overI (n + 1) f = overI n f ++ (f n).toList := by
  unfold overI
  rw [List.range_succ, List.filterMap_append]
  congr 1
theorem overI_len {α : Type} (n : Nat) (f : Nat → Option α) : (overI n f).length ≤ n := by
  unfold overI
  exact Nat.le_trans (List.length_filterMap_le _ _) (by simp)
theorem overI_mem {α : Type} {n : Nat} {f : Nat → Option α} {x : α} : x ∈ overI n f ↔ ∃ i, i < n ∧ f i = some x := by
  unfold overI
  simp [List.mem_filterMap]
def lateB (t : Tk) (p : Pr) (slot : Nat) : Bool := p.live && decide (p.rel + t.per ≤ slot)
def lateF (ts : List Tk) (ps : List Pr) (slot i : Nat) : Option Rq := match ts[i]?, ps[i]? with
  | some t, some p => if lateB t p slot then some ⟨-1, i, (p.jobs : Int) - 1, p.ran⟩ else none
  | _, _ => none
def lateL (ts : List Tk) (ps : List Pr) (slot : Nat) : List Rq := overI ps.length (lateF ts ps slot)
/-- The candidates of a slot. -/
def canB (t : Tk) (p : Pr) (slot : Nat) : Bool := p.live && decide (p.ran < t.cost) && decide (p.rel + winR t (p.ran + 1) ≤ slot)
def canF (ts : List Tk) (ps : List Pr) (slot i : Nat) : Option Cd := match ts[i]?, ps[i]? with
  | some t, some p => if canB t p slot then some ⟨i, t, p.rel, p.ran + 1⟩ else none
  | _, _ => none
def canL (ts : List Tk) (ps : List Pr) (slot : Nat) : List Cd := overI ps.length (canF ts ps slot)
/-- Those that run. -/
def sel (ts : List Tk) (ps : List Pr) (slot n : Nat) : List Nat := ((srt (canL ts ps slot)).take n).map (·.num)
/-- A job that ran in the slot before keeps its core. -/
def keeps (p : Pr) (slot : Nat) : Bool := decide (0 < p.ran) && decide (p.last = (slot : Int) - 1)
def fixed (ps : List Pr) (slot i : Nat) : Option Int := match ps[i]? with
  | some p => if keeps p slot then some p.core else none
  | none => none
def mkR (ps : List Pr) (c : Int) (i : Nat) : Rq := match ps[i]? with
  | some p => ⟨c, i, (p.jobs : Int) - 1, p.ran + 1⟩
  | none => ⟨c, i, 0, 0⟩
theorem mkR_core (ps : List Pr) (c : Int) (i : Nat) : (mkR ps c i).core = c := by unfold mkR; split <;> rfl
theorem mkR_task (ps : List Pr) (c : Int) (i : Nat) : (mkR ps c i).task = i := by unfold mkR; split <;> rfl
def fixL (ps : List Pr) (slot : Nat) (l : List Nat) : List Rq := l.filterMap fun i => (fixed ps slot i).map fun c => mkR ps c i
def othL (ps : List Pr) (slot : Nat) (l : List Nat) : List Nat := l.filter fun i => (fixed ps slot i).isNone
def takenB (F : List Rq) (c : Nat) : Bool := F.any fun r => r.core == (c : Int)
def freeL (F : List Rq) (n : Nat) : List Nat := (List.range n).filter fun c => !takenB F c
def newL (ps : List Pr) (fr oth : List Nat) : List Rq := List.zipWith (fun (c i : Nat) => mkR ps (c : Int) i) fr oth
/-- Each of those that run with its core. -/
def asg (ps : List Pr) (slot n : Nat) (l : List Nat) : List Rq := fixL ps slot l ++ newL ps (freeL (fixL ps slot l) n) (othL ps slot l)
/-- In the order of the cores. -/
def byCore (n : Nat) (l : List Rq) : List Rq := (List.range n).flatMap fun (c : Nat) => l.filter fun r => r.core == (c : Int)
def dispL (ts : List Tk) (ps : List Pr) (slot n : Nat) : List Rq := byCore n (asg ps slot n (sel ts ps slot n))
def cutB (t : Tk) (p : Pr) (slot : Nat) : Bool := p.live && decide (0 < p.ran) && decide (p.last = slot) && decide (t.cost ≤ p.ran)
def cutF (ts : List Tk) (ps : List Pr) (slot i : Nat) : Option Rq := match ts[i]?, ps[i]? with
  | some t, some p => if cutB t p slot then some ⟨p.core, i, (p.jobs : Int) - 1, p.ran⟩ else none
  | _, _ => none
def cutL (ts : List Tk) (ps : List Pr) (slot n : Nat) : List Rq := byCore n (overI ps.length (cutF ts ps slot))
/-- The events that a phase requires at its beginning. -/
def need (ts : List Tk) (n : Nat) (ps : List Pr) (slot phase : Nat) : List Rq :=
  if phase = 1 then lateL ts ps slot else if phase = 3 then dispL ts ps slot n else if phase = 5 then cutL ts ps slot n else []
/-- The beginning of the next phase. -/
def nxt (ts : List Tk) (n : Nat) (m : Mo) : Mo :=
  if m.phase < 5 then ⟨m.ps, m.slot, m.phase + 1, need ts n m.ps m.slot (m.phase + 1), m.last⟩ else ⟨m.ps, m.slot + 1, 1, need ts n m.ps (m.slot + 1) 1, -1⟩
/-- On to a phase: the rule that is violated, or 0. -/
def adv (ts : List Tk) (n slot phase : Nat) : Nat → Mo → Nat × Mo
  | 0, m => (0, m)
  | k + 1, m => if m.slot < slot ∨ m.phase < phase then (if m.req ≠ [] then (m.phase + 2, m) else if m.phase < 5 ∨ m.slot < slot then adv ts n slot phase k (nxt ts n m) else (0, m)) else (0, m)
def nextB (m : Mo) (e : Ev) : Bool := match m.req with
  | [] => false
  | r :: _ => decide (e.task = r.task) && decide (e.job = r.job) && decide (e.core = r.core) && decide (e.value = r.value)
def relB (ts : List Tk) (m : Mo) (e : Ev) : Bool := match ts[e.task.toNat]?, m.ps[e.task.toNat]? with
  | some t, some p => !(decide (e.task ≤ m.last) || p.live || (decide (0 < p.jobs) && decide ((m.slot : Int) - p.rel < t.per))) && decide (e.job = p.jobs) && decide (e.core = -1) && decide (e.value = 0)
  | _, _ => false
def runB (m : Mo) (e : Ev) : Bool := match m.ps[e.task.toNat]? with
  | some p => p.live && !decide (p.ran = 0) && decide (p.last = m.slot) && decide (p.core = e.core) && decide ((p.jobs : Int) - 1 = e.job) && (!decide (e.kind = 3) || decide (e.value = 0))
  | none => false
def admits (ts : List Tk) (p : Nat) (m : Mo) (e : Ev) : Bool := if p = 2 then relB ts m e else if p = 4 then runB m e else nextB m e
def follow (m : Mo) (e : Ev) : Mo :=
  if e.kind = 1 then ⟨m.ps.modify e.task.toNat fun p => ⟨p.jobs + 1, true, m.slot, 0, p.last, p.core⟩, m.slot, m.phase, m.req, e.task⟩
  else if e.kind = 2 then ⟨m.ps.modify e.task.toNat fun p => ⟨p.jobs, p.live, p.rel, p.ran + 1, m.slot, e.core⟩, m.slot, m.phase, m.req.tail, m.last⟩
  else if e.kind = 6 ∨ e.kind = 5 then ⟨m.ps.modify e.task.toNat fun p => ⟨p.jobs, false, p.rel, p.ran, p.last, p.core⟩, m.slot, m.phase, m.req.tail, m.last⟩
  else if e.kind = 3 ∨ e.kind = 4 then ⟨m.ps.modify e.task.toNat fun p => ⟨p.jobs, false, p.rel, p.ran, p.last, p.core⟩, m.slot, m.phase, m.req, m.last⟩
  else m
def fuel : Nat := 1000000
/-- The rule that an event violates, or 0, and the model behind it. -/
def exam (ts : List Tk) (n : Nat) (m : Mo) (e : Ev) : Nat × Mo :=
  if e.slot < m.slot ∨ 100000 < e.slot ∨ (e.slot = m.slot ∧ phaseOf e.kind ≠ 0 ∧ phaseOf e.kind < m.phase) then (1, m)
  else if phaseOf e.kind = 0 ∨ e.task < 0 ∨ (ts.length : Int) ≤ e.task then (2, m)
  else if (adv ts n e.slot.toNat (phaseOf e.kind) fuel m).1 ≠ 0 then adv ts n e.slot.toNat (phaseOf e.kind) fuel m
  else if admits ts (phaseOf e.kind) (adv ts n e.slot.toNat (phaseOf e.kind) fuel m).2 e then (0, follow (adv ts n e.slot.toNat (phaseOf e.kind) fuel m).2 e)
  else (phaseOf e.kind + 2, (adv ts n e.slot.toNat (phaseOf e.kind) fuel m).2)
/-- The rest of a trace, from an index on. -/
def run (ts : List Tk) (n : Nat) : Nat → Mo → List Ev → Option (Nat × Nat) × Mo
  | _, m, [] => (none, m)
  | i, m, e :: l => if (exam ts n m e).1 ≠ 0 then (some (i, (exam ts n m e).1), m) else run ts n (i + 1) (exam ts n m e).2 l
/-- The end: the last slot is done to its end. -/
def fin (ts : List Tk) (n : Nat) (m : Mo) (len : Nat) : Option (Nat × Nat) :=
  if len = 0 then none else if (adv ts n m.slot 6 fuel m).1 ≠ 0 then some (len, (adv ts n m.slot 6 fuel m).1) else none
def check (ts : List Tk) (cores : Int) (l : List Ev) : Option (Nat × Nat) :=
  if SL.okTs ts && decide (1 ≤ cores) && decide (cores ≤ 4) then
    match run ts cores.toNat 0 (mo0 ts.length) l with
    | (some x, _) => some x
    | (none, m) => fin ts cores.toNat m l.length
  else some (0, 0)
end Go.Proofs.YtpmbhdheeaejgaaGreatDoor.AU
