/- The contract of lexer.Lex. -/
import Derived.Test.YtaaaicpjlaeiiaaDoorLexB
import Derived.Test.YtaaaicpjlaeiiaaDoorMem
import Derived.Lib.IndexBytes
namespace Go.Proofs.YtaaaicpjlaeiiaaDoor
open Go.RowKit

def tokCells (t : PL.Tok) : List Value := [.int .u8 (t.kind : Int), .string ⟨t.text.toArray⟩, .int .i64 (t.pos : Int)]
def toksCells (ts : List PL.Tok) : List Value := ts.flatMap tokCells
theorem toksCells_length (ts : List PL.Tok) : (toksCells ts).length = ts.length * 3 := by
  induction ts with
  | nil => rfl
  | cons t ts ih => simp only [toksCells, List.flatMap_cons, List.length_append, List.length_cons] at ih ⊢; rw [ih]; simp [tokCells]; omega
theorem toksCells_snoc (ts : List PL.Tok) (t : PL.Tok) : toksCells (ts ++ [t]) = toksCells ts ++ tokCells t := by simp [toksCells]

/-- The three cells of the token at an index. -/
theorem toksCells_at {ts : List PL.Tok} {i : Nat} {t : PL.Tok} (h : ts[i]? = some t) :
    (toksCells ts)[i * 3]? = some (.int .u8 (t.kind : Int)) ∧ (toksCells ts)[i * 3 + 1]? = some (.string ⟨t.text.toArray⟩) ∧ (toksCells ts)[i * 3 + 2]? = some (.int .i64 (t.pos : Int)) := by
  induction ts generalizing i with
  | nil => simp at h
  | cons a ts ih =>
    cases i with
    | zero => simp at h; subst h; simp [toksCells, tokCells]
    | succ i =>
      obtain ⟨h0, h1, h2⟩ := ih (i := i) (by simpa using h)
      have e : toksCells (a :: ts) = tokCells a ++ toksCells ts := by simp [toksCells]
      have hl : (tokCells a).length = 3 := rfl
      rw [e]
      refine ⟨?_, ?_, ?_⟩
      · rw [List.getElem?_append_right (by omega), hl, show (i + 1) * 3 - 3 = i * 3 from by omega]; exact h0
      · rw [List.getElem?_append_right (by omega), hl, show (i + 1) * 3 + 1 - 3 = i * 3 + 1 from by omega]; exact h1
      · rw [List.getElem?_append_right (by omega), hl, show (i + 1) * 3 + 2 - 3 = i * 3 + 2 from by omega]; exact h2
theorem bytes_ext {a b : ByteArray} (h : a.data.toList = b.data.toList) : a = b := by
  cases a; cases b; congr 1; exact Array.ext' h
theorem drop_bytes (s : ByteArray) (k : Nat) : (s.extract k s.size).data.toList = s.data.toList.drop k := Lib.extract_to_end s k
theorem cut_bytes (s : ByteArray) (k m : Nat) : s.extract k (k + m) = ⟨((s.data.toList.drop k).take m).toArray⟩ :=
  bytes_ext (by rw [Lib.extract_data]; simp)
theorem cutd (s : ByteArray) (k m : Nat) : (s.extract k (k + m)).data.toList = (s.data.toList.drop k).take m := by rw [Lib.extract_data]; simp
theorem cells_three (w : World) (a b c : Value) (t : TypeId) : ∀ (j : Nat) (u : Value), [a, b, c][j]? = some u → (w.alloc (.cells #[a, b, c] t)).cell? ((⟨w.heap.size, 0, none⟩ : Addr).add j) = some u := by
  intro j u hj
  match j, hj with
  | 0, hj => simp at hj; subst hj; simp [Addr.add]
  | 1, hj => simp at hj; subst hj; simp [Addr.add]
  | 2, hj => simp at hj; subst hj; simp [Addr.add]

def LexEnd (s : ByteArray) (w : World) (e : Ending) (w' : World) : Prop :=
  ∃ v, e = .returned (.tuple #[v, .int .i64 ((PL.lex s.data.toList).2.1 : Int), .int .i64 ((PL.lex s.data.toList).2.2 : Int)]) ∧
    w'.ownsRow w.heap.size 63 3 v (PL.lex s.data.toList).1.length (toksCells (PL.lex s.data.toList).1) ∧ Below w.heap.size w w'

theorem infoTok : (Tryd.prog.info? 63).map (fun i => (i.zero, i.size, i.bytes)) = some (some (.agg #[.int .u8 0, .string ⟨#[]⟩, .int .i64 0]), 3, 32) := by kernel_rfl

set_option maxRecDepth 100000 in
set_option maxHeartbeats 400000 in
theorem lex_small (s : ByteArray) (w : World) (hg : SignsIs w) (hs : s.size ≤ 65536) : Calls Tryd.prog 34 #[.string s] w (LexEnd s w) := by
  have hlen : s.data.toList.length = s.size := Array.length_toList
  have HL := Lib.hid hlen
  clear hlen
  obtain ⟨i0, hi, hz0, hz1, hz2⟩ := info_parts infoTok
  have HI := Lib.hid hi
  have HZ0 := Lib.hid hz0
  have HZ1 := Lib.hid hz1
  have HZ2 := Lib.hid hz2
  clear hi hz0 hz1 hz2
  go_enter Tryd.func34, Tryd.ntmps34
  go_wp2_with fail
  go_loopw [5, 6] (fun v i wr => ∃ (pos : Nat) (ts : List PL.Tok), PL.Lexed s.data.toList pos ts ∧ i = .int .i64 pos ∧ wr.ownsRow w.heap.size 63 3 v ts.length (toksCells ts) ∧ Below w.heap.size w wr)
    (fun _ i _ => s.size - (intOf i).toNat)
  case atStart => exact ⟨0, [], PL.Lexed.start _, rfl, World.ownsRow_nil _ _ _ _, Below.refl _ _⟩
  case round =>
    obtain ⟨pos, ts, hlx, rfl, hown, hbel⟩ := hrel
    have hpl : pos ≤ s.size := by have := hlx.1; rw [HL.out] at this; exact this
    have hsg : SignsIs wr := hg.below hbel hg.pos
    have hsz := hbel.size
    by_cases hlt : pos < s.size
    · have hfl := PL.first_le (s.data.toList.drop pos)
      rw [List.length_drop, HL.out] at hfl
      have hfd := drop_bytes s pos
      have HFD := Lib.hid hfd
      clear hfd
      generalize hk : (PL.first (s.data.toList.drop pos)).1 = kk
      generalize hm : (PL.first (s.data.toList.drop pos)).2 = mm at hfl
      have hf := first_any (s.extract pos s.size) wr hsg (by simp [maxLen]; omega) (by simp; omega)
      rw [HFD.out, hk, hm] at hf
      have HF := Lib.hid hf
      clear hf
      have HK := Lib.hid hk
      have HM := Lib.hid hm
      clear hk hm
      by_cases h0 : mm = 0
      · have hmz : ((mm : Int) == 0) = true := by simp [h0]
        go_wp2_with ((go_at_call 71; refine HF.out.mono ?_; rintro e w1 ⟨rfl, hb1⟩))
        go_ret3
        have hl := hlx.bad (by rw [HL.out]; exact hlt) (by rw [HM.out]; exact h0) (by rw [HL.out]; exact hs)
        unfold LexEnd
        rw [hl]
        exact ⟨_, rfl, World.ownsRow_nil _ _ _ _, hbel.trans (hb1.mono hsz)⟩
      · have hmz : ((mm : Int) == 0) = false := by simp [h0]
        go_wp2_with (first | (go_at_call 71; refine HF.out.mono ?_; rintro e w1 ⟨rfl, hb1⟩) | (at_builtin; refine wpList_append_own _ rfl _ _ 58 rfl w.heap.size 63 i0 (.agg #[.int .u8 0, .string ⟨#[]⟩, .int .i64 0]) 3 32 Tryd.underlying58 HI.out HZ0.out HZ1.out HZ2.out rfl (by decide) _ _ _ rfl ((own_below hown hb1).alloc _) ⟨w1.heap.size, 0, none⟩ 1 1 [.int .u8 (kk : Int), .string (s.extract pos (pos + mm)), .int .i64 (pos : Int)] rfl rfl ?c1 ?c2 ?c3 ?c4 ?c5 ?_))
        case c1 => exact cells_three _ _ _ _ _
        case c2 => intro u hu; simp at hu; rcases hu with rfl | rfl | rfl <;> rfl
        case c3 => have := hlx.2.1; unfold maxLen; omega
        case c4 => have := hlx.2.1; omega
        case c5 => have := hb1.size; simp; omega
        intro v' w2 hown2 hg2 _
        have hnx := hlx.next (by rw [HL.out]; exact hlt) (by rw [HM.out]; exact h0)
        rw [HK.out, HM.out, ← cutd s pos mm] at hnx
        have hrow : w2.ownsRow w.heap.size 63 3 v' (ts ++ [(⟨kk, (s.extract pos (pos + mm)).data.toList, pos⟩ : PL.Tok)]).length (toksCells (ts ++ [⟨kk, (s.extract pos (pos + mm)).data.toList, pos⟩])) := by
          rw [toksCells_snoc, List.length_append]
          exact hown2
        have hbel2 : Below w.heap.size w w2 := by
          refine Below.grown (hbel.trans ((hb1.mono hsz).alloc (by have := hb1.size; omega) _)) hg2 (by have := hb1.size; simp; omega) (fun k hk => (hown.lt k hk).1)
        have HN := Lib.hid hnx
        clear hown2 hg2 hnx
        go_wp2_with fail
        go_roundw
        case rel => exact ⟨pos + mm, _, HN.out, by go_num, hrow, hbel2⟩
        case measure => simp [intOf]; omega
    · go_wp2_with fail
      go_ret3
      have hp : pos = s.data.toList.length := by rw [HL.out]; omega
      subst hp
      have hl := hlx.done (by rw [HL.out]; exact hs)
      unfold LexEnd
      rw [hl]
      exact ⟨_, rfl, hown, hbel⟩
set_option maxRecDepth 100000 in
theorem lex_any (s : ByteArray) (w : World) (hg : SignsIs w) (_hs : s.size ≤ maxLen) : Calls Tryd.prog 34 #[.string s] w (LexEnd s w) := by
  by_cases h : s.size ≤ 65536
  · exact lex_small s w hg h
  · have hl : PL.lex s.data.toList = ([], 0, 5) := PL.lex_full (by rw [show s.data.toList.length = s.size from Array.length_toList]; omega)
    have HL := Lib.hid hl
    clear hl
    go_enter Tryd.func34, Tryd.ntmps34
    go_wp2_with fail
    go_ret3
    unfold LexEnd
    rw [HL.out]
    exact ⟨_, rfl, World.ownsRow_nil _ _ _ _, Below.refl _ _⟩

end Go.Proofs.YtaaaicpjlaeiiaaDoor
