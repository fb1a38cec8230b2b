/- The assembler as plain functions: the text of code, and the code of a text. -/
import Derived.Lib.ItoaNum
import Derived.Lib.Split
namespace Go.Proofs.YtgeagpplihecmaaDoor.AS
structure Ins where
  op : Nat
  a : Int
  b : Int
  c : Int
  imm : Int
deriving DecidableEq
abbrev Bytes := List UInt8
def Ins.zero : Ins := ⟨0, 0, 0, 0, 0⟩
/-- The operands of an opcode: 0, 1, 2 for the registers, 3 for the immediate operand. -/
def shape (op : Nat) : List Nat :=
  if op = 0 ∨ op = 1 then [] else if op = 14 ∨ op = 22 ∨ op = 23 ∨ op = 25 ∨ op = 26 ∨ op = 27 then [0, 3]
  else if (15 ≤ op ∧ op ≤ 21) then [0, 1, 3] else if op = 24 ∨ op = 28 ∨ op = 29 then [3] else [0, 1, 2]
def Ins.get (i : Ins) (k : Nat) : Int := if k = 0 then i.a else if k = 1 then i.b else if k = 2 then i.c else i.imm
def Ins.put (i : Ins) (k : Nat) (v : Int) : Ins := if k = 0 then { i with a := v } else if k = 1 then { i with b := v } else if k = 2 then { i with c := v } else { i with imm := v }
def names : List Bytes := [[110, 111, 112], [104, 97, 108, 116], [97, 100, 100], [115, 117, 98], [109, 117, 108], [100, 105, 118], [109, 111, 100], [97, 110, 100], [111, 114], [120, 111, 114], [115, 104, 108], [115, 104, 114], [101, 113], [108, 116], [108, 105], [97, 100, 100, 105], [115, 104, 108, 105], [111, 114, 105], [108, 100], [115, 116], [108, 100, 115], [115, 116, 115], [98, 101, 113, 122], [98, 110, 101, 122], [106, 109, 112], [98, 111, 117, 110, 100], [105, 110], [111, 117, 116], [108, 111, 99, 107], [117, 110, 108, 111, 99, 107]]
def name (op : Nat) : Bytes := names.getD op []
def lo (op : Nat) : Int := if op = 25 then 1 else if op = 14 ∨ op = 15 ∨ (18 ≤ op ∧ op ≤ 24) then -131072 else 0
def hi (op : Nat) : Int := if op = 14 ∨ op = 15 ∨ (18 ≤ op ∧ op ≤ 25) then 131071 else if op = 16 then 31 else if op = 17 then 16383 else if op = 26 ∨ op = 27 then 7 else if op = 28 ∨ op = 29 then 3 else 0
def letter (k : Nat) : UInt8 := if k = 0 then 65 else if k = 1 then 66 else if k = 2 then 67 else 73
def opers (op : Nat) : Bytes := (shape op).map letter
def reads (op : Nat) : Bytes := if 2 ≤ op ∧ op ≤ 13 then [66, 67] else if (15 ≤ op ∧ op ≤ 18) ∨ op = 20 then [66] else if op = 19 ∨ op = 21 then [65, 66] else if op = 22 ∨ op = 23 ∨ op = 25 ∨ op = 27 then [65] else []
def writes (op : Nat) : Bool := (decide (2 ≤ op) && decide (op ≤ 18)) || (op == 20 || op == 26)
def limLo (op k : Nat) : Int := if (shape op).contains k && k == 3 then lo op else 0
def limHi (op k : Nat) : Int := if (shape op).contains k then (if k = 3 then hi op else 15) else 0
def inside (i : Ins) (k : Nat) : Bool := decide (limLo i.op k ≤ i.get k) && decide (i.get k ≤ limHi i.op k)
def valid (i : Ins) : Bool := decide (i.op < 30) && (inside i 0 && (inside i 1 && (inside i 2 && inside i 3)))
def word (i : Ins) (k : Nat) : Bytes := if k = 3 then Lib.itoa i.imm else 114 :: Lib.itoa (i.get k)
def line (i : Ins) : Bytes := name i.op ++ (shape i.op).flatMap (fun k => 32 :: word i k) ++ [10]
def fmtL (l : List Ins) : Bytes := l.flatMap line
/-- Format: the text, the error. -/
def fmt (l : List Ins) : Bytes × Nat := if 4096 < l.length then ([], 5) else if l.all valid then (fmtL l, 0) else ([], 3)
def isDig (b : UInt8) : Bool := decide (48 ≤ b.toNat) && decide (b.toNat ≤ 57)
def val (d : Bytes) : Nat := d.foldl (fun v b => v * 10 + (b.toNat - 48)) 0
def digs (s : Bytes) : Bytes := if s.head? = some 45 then s.tail else s
def num (s : Bytes) : Option Int :=
  if digs s = [] ∨ 9 < (digs s).length ∨ ((digs s).head? = some 48 ∧ (1 < (digs s).length ∨ s.head? = some 45)) ∨ (digs s).all isDig = false then none
  else some (if s.head? = some 45 then -(val (digs s) : Int) else val (digs s))
def reg (s : Bytes) : Option Int := if s.head? = some 114 ∧ s.tail.head? ≠ some 45 then num s.tail else none
def rd (k : Nat) (s : Bytes) : Option Int := if k = 3 then num s else reg s
def opIx (l : List Bytes) (s : Bytes) : Option Nat := l.findIdx? (· == s)
def rdAll : List Nat → List Bytes → Ins → Option Ins
  | k :: ks, w :: ws, i => (rd k w).bind fun v => rdAll ks ws (i.put k v)
  | [], [], i => some i
  | _, _, _ => none
def rdLine (w : Bytes) (ws : List Bytes) : Option Ins :=
  (opIx names w).bind fun op => if (shape op).length = ws.length then (rdAll (shape op) ws { Ins.zero with op := op }).bind fun i => if valid i then some i else none else none
def isBl (b : UInt8) : Bool := b == 32 || b == 9
def flds : Bytes → Bytes → List Bytes
  | cur, [] => if cur.isEmpty then [] else [cur]
  | cur, b :: l => if isBl b then (if cur.isEmpty then flds [] l else cur :: flds [] l) else flds (cur ++ [b]) l
def cutC (l : Bytes) : Bytes := l.takeWhile (· != 59)
def words (l : Bytes) : List Bytes := flds [] (cutC l)
def lines : Bytes → Bytes → List Bytes
  | cur, [] => [cur]
  | cur, b :: l => if b == 10 then cur :: lines [] l else lines (cur ++ [b]) l
def rdLines : List Bytes → Nat → List Ins → List Ins × Nat × Nat
  | [], _, acc => (acc, 0, 0)
  | l :: ls, k, acc => match words l with
    | [] => rdLines ls (k + 1) acc
    | w :: ws => match rdLine w ws with
      | none => ([], k + 1, 3)
      | some i => if acc.length = 4096 then ([], k + 1, 5) else rdLines ls (k + 1) (acc ++ [i])
/-- Parse: the code, the line, the error. -/
def parse (s : Bytes) : List Ins × Nat × Nat := if 65536 < s.length then ([], 0, 5) else rdLines (lines [] s) 0 []
end Go.Proofs.YtgeagpplihecmaaDoor.AS
