/- The contract of lexer.Solid, over any slice of tokens (lines of XJoin and XLawLines). -/
import Derived.Test.YtaaaicpjlaeiiaaDoorLexC
import Derived.Test.YtaaaicpjlaeiiaaDoorPlainLex3
namespace Go.Proofs.YtaaaicpjlaeiiaaDoor
open Go.RowKit

/-- A token as it lies in memory. -/
structure RT where
  k : Int
  s : ByteArray
  p : Int
def RT.cells (r : RT) : List Value := [.int .u8 r.k, .string r.s, .int .i64 r.p]
def rtOf (t : PL.Tok) : RT := ⟨(t.kind : Int), ⟨t.text.toArray⟩, (t.pos : Int)⟩
theorem toksCells_eq (ts : List PL.Tok) : toksCells ts = (ts.map rtOf).flatMap RT.cells := by
  induction ts with
  | nil => rfl
  | cons t ts ih => simp only [toksCells, List.flatMap_cons, List.map_cons] at ih ⊢; rw [ih]; rfl
theorem rtCells_length (rs : List RT) : (rs.flatMap RT.cells).length = rs.length * 3 := by
  induction rs with
  | nil => rfl
  | cons r rs ih => simp only [List.flatMap_cons, List.length_append, List.length_cons, ih]; simp [RT.cells]; omega
theorem rtCells_at {rs : List RT} {i : Nat} {r : RT} (h : rs[i]? = some r) :
    (rs.flatMap RT.cells)[i * 3]? = some (.int .u8 r.k) ∧ (rs.flatMap RT.cells)[i * 3 + 1]? = some (.string r.s) ∧ (rs.flatMap RT.cells)[i * 3 + 2]? = some (.int .i64 r.p) := by
  induction rs generalizing i with
  | nil => simp at h
  | cons a rs ih =>
    cases i with
    | zero => simp at h; subst h; simp [RT.cells]
    | succ i =>
      obtain ⟨h0, h1, h2⟩ := ih (i := i) (by simpa using h)
      have hl : (RT.cells a).length = 3 := rfl
      rw [List.flatMap_cons]
      refine ⟨?_, ?_, ?_⟩
      · rw [List.getElem?_append_right (by omega), hl, show (i + 1) * 3 - 3 = i * 3 from by omega]; exact h0
      · rw [List.getElem?_append_right (by omega), hl, show (i + 1) * 3 + 1 - 3 = i * 3 + 1 from by omega]; exact h1
      · rw [List.getElem?_append_right (by omega), hl, show (i + 1) * 3 + 2 - 3 = i * 3 + 2 from by omega]; exact h2

/-- A slice value reads as a list of tokens. -/
def RToks (w : World) (A : Option Addr) (rs : List RT) : Prop :=
  rs ≠ [] → ∃ b o, A = some ⟨b, o, none⟩ ∧ b < w.heap.size ∧ ∀ i r, rs[i]? = some r →
    w.cell? ⟨b, o + i * 3, none⟩ = some (.int .u8 r.k) ∧ w.cell? ⟨b, o + i * 3 + 1, none⟩ = some (.string r.s) ∧ w.cell? ⟨b, o + i * 3 + 2, none⟩ = some (.int .i64 r.p)
theorem RToks.below {w w' : World} {A : Option Addr} {rs : List RT} (h : RToks w A rs) (hb : Below w.heap.size w w') : RToks w' A rs := fun hn => by
  obtain ⟨b, o, rfl, hlt, hc⟩ := h hn
  refine ⟨b, o, rfl, Nat.lt_of_lt_of_le hlt hb.size, fun i r hi => ?_⟩
  obtain ⟨h0, h1, h2⟩ := hc i r hi
  exact ⟨(hb.cell (p := ⟨b, o + i * 3, none⟩) hlt).trans h0, (hb.cell (p := ⟨b, o + i * 3 + 1, none⟩) hlt).trans h1, (hb.cell (p := ⟨b, o + i * 3 + 2, none⟩) hlt).trans h2⟩
theorem RToks.of_own {w : World} {base : Nat} {e : TypeId} {A : Option Addr} {c : Nat} {rs : List RT} (h : w.ownsRow base e 3 (.slice A rs.length c) rs.length (rs.flatMap RT.cells)) : RToks w A rs := fun hn => by
  obtain ⟨g, cap, hv, _, hlt, _, hc⟩ := own_cells h (List.length_pos_iff.2 hn)
  injection hv with hA
  subst hA
  refine ⟨g, 0, rfl, hlt, fun i r hi => ?_⟩
  obtain ⟨h0, h1, h2⟩ := rtCells_at hi
  simp only [Nat.zero_add]
  exact ⟨hc _ _ h0, hc _ _ h1, hc _ _ h2⟩

def solidB (r : RT) : Bool := (r.k != 4) && (r.k != 5)
def solidRT (rs : List RT) : List RT := rs.filter solidB
theorem solid_take (rs : List RT) (k : Nat) (r : RT) (h : rs[k]? = some r) : solidRT (rs.take (k + 1)) = solidRT (rs.take k) ++ (if solidB r then [r] else []) := by
  obtain ⟨hk, rfl⟩ := List.getElem?_eq_some_iff.1 h
  rw [List.take_succ_eq_append_getElem hk]
  unfold solidRT
  rw [List.filter_append]
  congr 1
  cases hb : solidB rs[k] <;> simp [hb]
theorem solid_le (rs : List RT) (k : Nat) : (solidRT (rs.take k)).length ≤ k := by
  unfold solidRT
  have h1 := List.length_filter_le solidB (rs.take k)
  have h2 := List.length_take_le k rs
  omega

set_option maxRecDepth 100000 in
set_option maxHeartbeats 400000 in
theorem solid_any (A : Option Addr) (n c : Nat) (rs : List RT) (w : World) (hN : rs.length = n) (h : RToks w A rs) (hlen : n ≤ 4398046511000) :
    Calls Tryd.prog 35 #[.slice A n c] w fun e w' => ∃ v, e = .returned v ∧ w'.ownsRow w.heap.size 63 3 v (solidRT rs).length ((solidRT rs).flatMap RT.cells) ∧ Below w.heap.size w w' := by
  obtain ⟨i0, hi, hz0, hz1, hz2⟩ := info_parts infoTok
  have HI := Lib.hid hi
  have HZ0 := Lib.hid hz0
  have HZ1 := Lib.hid hz1
  have HZ2 := Lib.hid hz2
  clear hi hz0 hz1 hz2
  have HN := Lib.hid hN
  clear hN
  go_enter Tryd.func35, Tryd.ntmps35
  go_wp2_with fail
  go_loopw [3, 8] (fun v i wr => ∃ k : Nat, k ≤ n ∧ i = .int .i64 k ∧ wr.ownsRow w.heap.size 63 3 v (solidRT (rs.take k)).length ((solidRT (rs.take k)).flatMap RT.cells) ∧ Below w.heap.size w wr)
    (fun _ i _ => n - (intOf i).toNat)
  case atStart => exact ⟨0, Nat.zero_le _, rfl, World.ownsRow_nil _ _ _ _, Below.refl _ _⟩
  case round =>
    obtain ⟨k, hk, rfl, hown, hbel⟩ := hrel
    have hsz := hbel.size
    by_cases hlt : k < n
    · obtain ⟨r, hr⟩ : ∃ r, rs[k]? = some r := ⟨_, List.getElem?_eq_getElem (by rw [HN.out]; exact hlt)⟩
      obtain ⟨b, o, rfl, hb, hc⟩ := h (by rintro rfl; have := HN.out; simp at this; omega)
      obtain ⟨h0, h1, h2⟩ := hc k r hr
      have c0 := (hbel.cell (p := ⟨b, o + k * 3, none⟩) hb).trans h0
      have c1 := (hbel.cell (p := ⟨b, o + k * 3 + 1, none⟩) hb).trans h1
      have c2 := (hbel.cell (p := ⟨b, o + k * 3 + 2, none⟩) hb).trans h2
      have HJ := Lib.hid (solid_take rs k r hr)
      have hle := solid_le rs k
      clear h0 h1 h2 hc h hr
      cases hs4 : (r.k != 4) with
      | false =>
        have hsb : solidB r = false := by simp [solidB, hs4]
        have HS := Lib.hid hsb
        clear hsb
        go_wp2_with fail
        go_roundw
        case rel => exact ⟨k + 1, by omega, by go_num, by rw [HJ.out, HS.out]; simpa using hown.alloc _, hbel.alloc hsz _⟩
        case measure => simp [intOf]; omega
      | true =>
        cases hs5 : (r.k != 5) with
        | false =>
          have hsb : solidB r = false := by simp [solidB, hs5]
          have HS := Lib.hid hsb
          clear hsb
          go_wp2_with fail
          go_roundw
          case rel => exact ⟨k + 1, by omega, by go_num, by rw [HJ.out, HS.out]; simpa using hown.alloc _, hbel.alloc hsz _⟩
          case measure => simp [intOf]; omega
        | true =>
          have hsb : solidB r = true := by simp [solidB, hs4, hs5]
          have HS := Lib.hid hsb
          clear hsb
          go_wp2_with (at_builtin; refine wpList_append_own _ rfl _ _ 58 rfl w.heap.size 63 i0 (.agg #[.int .u8 0, .string ⟨#[]⟩, .int .i64 0]) 3 32 Tryd.underlying58 HI.out HZ0.out HZ1.out HZ2.out rfl (by decide) _ _ _ rfl ((hown.alloc _).alloc _) ⟨wr.heap.size + 1, 0, none⟩ 1 1 [.int .u8 r.k, .string r.s, .int .i64 r.p] rfl rfl ?c1 ?c2 ?c3 ?c4 ?c5 ?_)
          case c1 =>
            have := cells_three (wr.alloc (.cells #[.int .u8 r.k, .string r.s, .int .i64 r.p] 63)) (.int .u8 r.k) (.string r.s) (.int .i64 r.p) 63
            simpa using this
          case c2 => intro u hu; simp at hu; rcases hu with rfl | rfl | rfl <;> rfl
          case c3 => unfold maxLen; omega
          case c4 => omega
          case c5 => simp; omega
          intro v' w2 hown2 hg2 _
          have hbel2 : Below w.heap.size w w2 :=
            Below.grown ((hbel.alloc hsz _).alloc (by simp; omega) _) hg2 (by simp; omega) (fun k hk => (hown.lt k hk).1)
          have hrow : w2.ownsRow w.heap.size 63 3 v' (solidRT (rs.take (k + 1))).length ((solidRT (rs.take (k + 1))).flatMap RT.cells) := by
            rw [HJ.out, HS.out]
            simpa [RT.cells] using hown2
          clear hown2 hg2
          go_wp2_with fail
          go_roundw
          case rel => exact ⟨k + 1, by omega, by go_num, hrow, hbel2⟩
          case measure => simp [intOf]; omega
    · have hk' : rs.take k = rs := List.take_of_length_le (by rw [HN.out]; omega)
      rw [hk'] at hown
      clear hk'
      go_wp2_with fail
      go_ret
      exact ⟨_, rfl, hown, hbel⟩
theorem solid_rt (ts : List PL.Tok) : solidRT (ts.map rtOf) = (ts.filter PL.solidT).map rtOf := by
  unfold solidRT
  rw [List.filter_map]
  congr 1
  apply List.filter_congr
  intro t _
  simp only [Function.comp, solidB, rtOf, PL.solidT]
  rw [Bool.eq_iff_iff]; simp; omega
theorem own_rt {w : World} {base : Nat} {v : Value} {ts : List PL.Tok} (h : w.ownsRow base 63 3 v ts.length (toksCells ts)) : ∃ A c, v = .slice A ts.length c ∧ RToks w A (ts.map rtOf) := by
  obtain ⟨A, c, rfl⟩ := own_form h
  rw [toksCells_eq] at h
  exact ⟨A, c, rfl, RToks.of_own (base := base) (e := 63) (c := c) (by rw [List.length_map]; exact h)⟩
/-- Solid over the tokens that Lex made. -/
theorem solid_toks (A : Option Addr) (n c : Nat) (ts : List PL.Tok) (w : World) (hN : ts.length = n) (h : RToks w A (ts.map rtOf)) (hlen : n ≤ 65536) :
    Calls Tryd.prog 35 #[.slice A n c] w fun e w' => ∃ A' c', e = .returned (.slice A' (ts.filter PL.solidT).length c') ∧ RToks w' A' ((ts.filter PL.solidT).map rtOf) ∧ Below w.heap.size w w' := by
  refine (solid_any A n c (ts.map rtOf) w (by rw [List.length_map]; exact hN) h (by omega)).mono ?_
  rintro e w' ⟨v, rfl, hown, hb⟩
  rw [solid_rt] at hown
  obtain ⟨A', c', rfl⟩ := own_form hown
  refine ⟨A', c', by rw [List.length_map], RToks.of_own (base := w.heap.size) (e := 63) (c := c') hown, hb⟩

end Go.Proofs.YtaaaicpjlaeiiaaDoor
