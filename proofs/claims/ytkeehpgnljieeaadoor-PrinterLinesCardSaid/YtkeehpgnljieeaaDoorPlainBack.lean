/- The parser's plain functions read the text of an expression as that expression. -/
import Derived.Test.YtkeehpgnljieeaaDoorPlainTok
namespace Go.Proofs.YtkeehpgnljieeaaDoor.PP
open PL
theorem lexTo_whole {l : List UInt8} {ks : List (Nat × List UInt8)} (h : LexTo l ks []) (hl : l.length ≤ 65536) : ∃ ts, lex l = (ts, 0, 0) ∧ (ts.filter solidT).map kt = ks := by
  obtain ⟨ts, p, h1, h2⟩ := h 0
  exact ⟨ts, lex_of_ok hl h1.ok, h2⟩
theorem at_of_map {ts : List Tok} {L : Nat} {ks : List (Nat × List UInt8)} (h : ts.map kt = ks) : At ⟨ts, L⟩ 0 ks := by
  intro j x hj
  rw [← h, List.getElem?_map] at hj
  obtain ⟨t, ht, hx⟩ := Option.map_eq_some_iff.1 hj
  exact ⟨t, by rw [Nat.zero_add]; exact ht, hx⟩
theorem back_expr {t : Tree} (h : okT t 101 = true) (hs : t.size ≤ 400) (hl : large t = false) : ∃ m, exprP (envL (prE t)) m (sigT (prE t)) = some (⟨(tokE t).length, 0, 0⟩, t) := by
  have hlen := okEE h
  obtain ⟨ts, h1, h2⟩ := lexTo_whole (by have := lexE h (r := []) rfl; rwa [List.append_nil] at this) (by omega)
  have hE : envL (prE t) = ⟨ts.filter solidT, (prE t).length⟩ := by unfold envL; rw [h1]
  have hσ : sigT (prE t) = at0 0 := by unfold sigT; rw [h1]
  have hA := at_of_map (L := (prE t).length) h2
  have hn : (ts.filter solidT).length = (tokE t).length := by rw [← h2]; simp
  obtain ⟨m, hm⟩ := read_expr h hA (NextOk.none (by simp [hn]))
  refine ⟨m, ?_⟩
  rw [hE, hσ]
  unfold exprP
  rw [hm]
  simp only [Option.map_some, Nat.zero_add]
  have hmore : more ⟨ts.filter solidT, (prE t).length⟩ (at0 (tokE t).length) = false := by simp [more, hn]
  rw [hmore, if_neg (by decide)]
  unfold limitP
  rw [hl]
  rfl
end Go.Proofs.YtkeehpgnljieeaaDoor.PP
