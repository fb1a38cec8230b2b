/- The reference lexer's contracts, for the parser's laws (written by wip/mkrdn.py from RefA, RefB, RefC, Names). -/
import Derived.Test.YtglaecalbamnkaaGreatDoorKB
import Derived.Test.YtglaecalbamnkaaGreatDoorKA
import Derived.Deep.RegionHeld3
import Derived.Deep.AppendLies
set_option maxRecDepth 100000
namespace Go.Proofs.YtglaecalbamnkaaGreatDoor
open Go.RowKit

theorem rletter_any (c : UInt8) (w : World) :
    Calls Tryz.prog 89 #[.int .u8 (c.toNat : Int)] w fun e w' => e = .returned (.bool (PL.isLetter c)) ∧ w = w' := by
  by_cases h1 : (97 : Int) ≤ (c.toNat : Int) <;> by_cases h2 : (c.toNat : Int) ≤ 122
  all_goals
    go_enter Tryz.func89, Tryz.ntmps89
    go_wp2
    go_ret
    exact ⟨by rw [PL.isLetter_eq]; simp [h1, h2], rfl⟩
theorem rdigit_any (c : UInt8) (w : World) :
    Calls Tryz.prog 90 #[.int .u8 (c.toNat : Int)] w fun e w' => e = .returned (.bool (PL.isDigit c)) ∧ w = w' := by
  by_cases h1 : (48 : Int) ≤ (c.toNat : Int) <;> by_cases h2 : (c.toNat : Int) ≤ 57
  all_goals
    go_enter Tryz.func90, Tryz.ntmps90
    go_wp2
    go_ret
    exact ⟨by rw [PL.isDigit_eq]; simp [h1, h2], rfl⟩
theorem rspace_any (c : UInt8) (w : World) :
    Calls Tryz.prog 91 #[.int .u8 (c.toNat : Int)] w fun e w' => e = .returned (.bool (PL.isSpace c)) ∧ w = w' := by
  cases h1 : ((c.toNat : Int) == 32) <;> cases h2 : ((c.toNat : Int) == 9) <;> cases h3 : ((c.toNat : Int) == 13) <;> cases h4 : ((c.toNat : Int) == 10)
  all_goals
    go_enter Tryz.func91, Tryz.ntmps91
    go_wp2
    go_ret
    exact ⟨by rw [PL.isSpace_eq]; simp [h1, h2, h3, h4], rfl⟩

/-- A slice value reads as a list of texts. -/
def StrsAt (w : World) (A : Option Addr) (ss : List (List UInt8)) : Prop :=
  ss ≠ [] → ∃ b o, A = some ⟨b, o, none⟩ ∧ b < w.heap.size ∧ ∀ i x, ss[i]? = some x → w.cell? ⟨b, o + i, none⟩ = some (.string ⟨x.toArray⟩)
def NotIn (ss : List (List UInt8)) (x : List UInt8) (k : Nat) : Prop := ∀ i y, ss[i]? = some y → i < k → y ≠ x
theorem NotIn.next {ss : List (List UInt8)} {x y : List UInt8} {k : Nat} (h : NotIn ss x k) (hy : ss[k]? = some y) (hne : y ≠ x) : NotIn ss x (k + 1) := by
  intro i z hz hi
  rcases Nat.lt_or_ge i k with h1 | h1
  · exact h i z hz h1
  · obtain rfl : i = k := by omega
    rw [hy] at hz; injection hz with hz; rw [← hz]; exact hne
theorem NotIn.done {ss : List (List UInt8)} {x : List UInt8} {k : Nat} (h : NotIn ss x k) (hk : ss.length ≤ k) : hasB ss x = false := by
  unfold hasB
  cases hc : ss.contains x with
  | false => rfl
  | true =>
    have hm : x ∈ ss := by simpa using hc
    obtain ⟨i, hi, rfl⟩ := List.mem_iff_getElem.1 hm
    exact absurd rfl (h i _ (List.getElem?_eq_getElem hi) (by omega))

set_option maxHeartbeats 400000 in
theorem in_any (A : Option Addr) (n c : Nat) (ss : List (List UInt8)) (s : ByteArray) (w : World) (hN : ss.length = n) (h : StrsAt w A ss) (_hn : n ≤ 9223372036854775806) :
    Calls Tryz.prog 92 #[.slice A n c, .string s] w fun e w' => e = .returned (.bool (hasB ss s.data.toList)) ∧ w = w' := by
  have HN := Lib.hid hN
  clear hN
  go_enter Tryz.func92, Tryz.ntmps92
  go_wp2_with fail
  go_loop [5] (fun i => ∃ k : Nat, k ≤ n ∧ i = .int .i64 k ∧ NotIn ss s.data.toList k) (fun i => n - (intOf i).toNat)
  case atStart => exact ⟨0, Nat.zero_le _, rfl, fun i y _ hi => by omega⟩
  case round =>
    obtain ⟨k, hk, rfl, hno⟩ := hrel
    by_cases hlt : k < n
    · obtain ⟨x, hx⟩ : ∃ x, ss[k]? = some x := ⟨_, List.getElem?_eq_getElem (by rw [HN.out]; exact hlt)⟩
      obtain ⟨b, o, rfl, hb, hc⟩ := h (by rintro rfl; have := HN.out; simp at this; omega)
      have hc0 := hc k x hx
      have HX := Lib.hid hx
      have HNO := Lib.hid hno
      clear hc h hx hno
      by_cases he : x = s.data.toList
      · have heq : (x == s.toList) = true := by rw [Lib.toList_data]; simpa using he
        go_wp2_with fail
        go_ret
        exact ⟨by rw [show hasB ss s.data.toList = true from by unfold hasB; rw [← he]; simpa using List.mem_of_getElem? HX.out]; rfl, rfl⟩
      · have heq : (x == s.toList) = false := by rw [Lib.toList_data]; simpa using he
        go_wp2_with fail
        go_round
        case rel => exact ⟨k + 1, by omega, by go_num, HNO.out.next HX.out he⟩
        case measure => simp [intOf]; omega
    · have hd := hno.done (by rw [HN.out]; omega)
      have HD := Lib.hid hd
      clear hd hno
      go_wp2_with fail
      go_ret
      exact ⟨by rw [HD.out]; rfl, rfl⟩

def keyCells : Array Value := (PL.keywords.map fun g => Value.string ⟨g.toArray⟩).toArray
theorem strs_new (w : World) (ss : List (List UInt8)) (t : TypeId) : StrsAt (w.alloc (.cells (ss.map fun g => Value.string ⟨g.toArray⟩).toArray t)) (some ⟨w.heap.size, 0, none⟩) ss := by
  intro _
  refine ⟨w.heap.size, 0, rfl, by simp, fun i x hx => ?_⟩
  have h := cell_of_row (w.alloc (.cells (ss.map fun g => Value.string ⟨g.toArray⟩).toArray t)) w.heap.size i (ss.map fun g => Value.string ⟨g.toArray⟩).toArray t (0, 0) (heap_alloc_new w _)
  rw [Nat.zero_add, h]
  simp [hx]
theorem rsigns_any (w : World) : Calls Tryz.prog 93 #[] w fun e w' => e = .returned (.slice (some ⟨w.heap.size, 0, none⟩) 28 28) ∧ w.alloc (.cells signCells 9) = w' := by
  go_enter Tryz.func93, Tryz.ntmps93
  go_wp2
  go_ret
  exact ⟨rfl, rfl⟩
theorem rkeywords_any (w : World) : Calls Tryz.prog 94 #[] w fun e w' => e = .returned (.slice (some ⟨w.heap.size, 0, none⟩) 13 13) ∧ w.alloc (.cells keyCells 9) = w' := by
  go_enter Tryz.func94, Tryz.ntmps94
  go_wp2
  go_ret
  exact ⟨rfl, rfl⟩
end Go.Proofs.YtglaecalbamnkaaGreatDoor

namespace Go.Proofs.YtglaecalbamnkaaGreatDoor
open Go.RowKit

def wordB (s : ByteArray) (h : 0 < s.size) (k : Nat) : Bool := PL.isLetter s[0] && (s.data.toList.take k).all PL.isInner
def numB (s : ByteArray) (k : Nat) : Bool := (s.data.toList.take k).all PL.isDigit
def blankB (s : ByteArray) (k : Nat) : Bool := (s.data.toList.take k).all PL.isSpace
def comB (s : ByteArray) (h : 0 < s.size) (k : Nat) : Bool := ((s[0].toNat : Int) == 35) && (s.data.toList.take k).all PL.isText
theorem all_step (p : UInt8 → Bool) (s : ByteArray) (k : Nat) (h : k < s.size) : (s.data.toList.take (k + 1)).all p = ((s.data.toList.take k).all p && p s[k]) := by
  have hl : k < s.data.toList.length := by rw [Array.length_toList]; exact h
  rw [List.take_succ_eq_append_getElem hl, List.all_append]
  simp; rfl
theorem wordB_step (s : ByteArray) (h0 : 0 < s.size) (k : Nat) (h : k < s.size) : wordB s h0 (k + 1) = (wordB s h0 k && (PL.isLetter s[k] || PL.isDigit s[k])) := by
  unfold wordB; rw [all_step _ s k h, Bool.and_assoc]; rfl
theorem numB_step (s : ByteArray) (k : Nat) (h : k < s.size) : numB s (k + 1) = (numB s k && PL.isDigit s[k]) := all_step _ s k h
theorem blankB_step (s : ByteArray) (k : Nat) (h : k < s.size) : blankB s (k + 1) = (blankB s k && PL.isSpace s[k]) := all_step _ s k h
theorem comB_step (s : ByteArray) (h0 : 0 < s.size) (k : Nat) (h : k < s.size) : comB s h0 (k + 1) = (comB s h0 k && ((s[k].toNat : Int) != 10)) := by
  unfold comB; rw [all_step _ s k h, Bool.and_assoc, PL.isText_eq]
theorem refKind_eq (s : ByteArray) (h0 : 0 < s.size) : PL.refKind s.data.toList =
    if wordB s h0 s.size then 1 else if numB s s.size then 2 else if hasB PL.signs s.data.toList then 3 else if blankB s s.size then 4 else if comB s h0 s.size then 5 else 0 := by
  have hl : s.data.toList = s[0] :: s.data.toList.tail := by
    have hlen : 0 < s.data.toList.length := by rw [Array.length_toList]; exact h0
    cases hc : s.data.toList with
    | nil => rw [hc] at hlen; simp at hlen
    | cons a t =>
      have : s.data.toList[0] = a := by simp [hc]
      rw [← this]; rfl
  have ht : s.data.toList.take s.size = s.data.toList := List.take_of_length_le (by rw [Array.length_toList]; exact Nat.le_refl _)
  unfold wordB numB blankB comB hasB
  rw [ht, ← show (s[0] == 35) = ((s[0].toNat : Int) == 35) from PL.byte_beq _ _]
  unfold PL.refKind
  rw [hl]

set_option maxHeartbeats 1000000 in
theorem kind_some (s : ByteArray) (w : World) (_hs : s.size ≤ maxLen) (h0 : 0 < s.size) :
    Calls Tryz.prog 65 #[.string s] w fun e w' => e = .returned (.int .u8 (PL.refKind s.data.toList : Int)) ∧ Below w.heap.size w w' := by
  have hsz : ((s.size : Int) == 0) = false := beq_eq_false_iff_ne.2 (by omega)
  have hrk := refKind_eq s h0
  generalize hK : PL.refKind s.data.toList = K at *
  have HRK := Lib.hid hrk
  clear hrk hK
  have hw0 : PL.isLetter s[0] = wordB s h0 0 := by unfold wordB; simp
  have hc0 : ((s[0].toNat : Int) == 35) = comB s h0 0 := by unfold comB; simp
  have hlt0 : (0 : Int) < (s.size : Int) := by omega
  have HW0 := Lib.hid hw0
  have HC0 := Lib.hid hc0
  clear hw0 hc0
  unfold maxLen at _hs
  go_enter Tryz.func65, Tryz.ntmps65
  go_wp2_with fail
  go_quiet ((go_at_call 89; exact quiet_left (rletter_any _ _)))
  go_wp2_with fail
  go_loop [3, 4, 5, 6, 7] (fun a b c d i => ∃ k : Nat, k ≤ s.size ∧ i = .int .i64 k ∧ a = .bool (wordB s h0 k) ∧ b = .bool (numB s k) ∧ c = .bool (blankB s k) ∧ d = .bool (comB s h0 k)) (fun _ _ _ _ i => s.size - (intOf i).toNat)
  case atStart => exact ⟨0, Nat.zero_le _, rfl, by rw [HW0.out], rfl, rfl, by rw [HC0.out]⟩
  case round =>
    obtain ⟨k, hk, rfl, rfl, rfl, rfl, rfl⟩ := hrel
    by_cases hlt : k < s.size
    · have S1 := Lib.hid (wordB_step s h0 k hlt)
      have S2 := Lib.hid (numB_step s k hlt)
      have S3 := Lib.hid (blankB_step s k hlt)
      have S4 := Lib.hid (comB_step s h0 k hlt)
      generalize hc : s[k] = c at *
      have HC := Lib.hid hc
      generalize hwb : wordB s h0 k = wb at *
      generalize hnb : numB s k = nb at *
      generalize hbb : blankB s k = bb at *
      generalize hcb : comB s h0 k = cb at *
      clear hwb hnb hbb hcb
      rcases (show wb = false ∨ (wb = true ∧ PL.isLetter c = true) ∨ (wb = true ∧ PL.isLetter c = false) from by cases wb <;> cases PL.isLetter c <;> simp) with rfl | ⟨rfl, hl⟩ | ⟨rfl, hl⟩ <;> cases nb <;> cases bb <;> cases cb
      all_goals
        go_wp2_with (first | (go_at_call 89; refine (rletter_any _ _).mono ?_; rintro e w' ⟨rfl, rfl⟩) | (go_at_call 90; refine (rdigit_any _ _).mono ?_; rintro e w' ⟨rfl, rfl⟩) | (go_at_call 91; refine (rspace_any _ _).mono ?_; rintro e w' ⟨rfl, rfl⟩))
        go_round
        case rel => exact ⟨k + 1, by omega, by go_num, by rw [S1.out]; simp [*], by rw [S2.out]; simp, by rw [S3.out]; simp, by rw [S4.out]; simp⟩
        case measure => simp [intOf]; omega
    · obtain rfl : k = s.size := by omega
      have hrk := HRK.out
      generalize hwb : wordB s h0 s.size = wb at *
      generalize hnb : numB s s.size = nb at *
      generalize hbb : blankB s s.size = bb at *
      generalize hcb : comB s h0 s.size = cb at *
      generalize hsb : hasB PL.signs s.data.toList = sb at *
      have HSB := Lib.hid hsb
      clear hwb hnb hbb hcb hsb HRK
      rcases (show (wb = true) ∨ (wb = false ∧ nb = true) ∨ (wb = false ∧ nb = false ∧ sb = true) ∨ (wb = false ∧ nb = false ∧ sb = false ∧ bb = true) ∨ (wb = false ∧ nb = false ∧ sb = false ∧ bb = false ∧ cb = true) ∨ (wb = false ∧ nb = false ∧ sb = false ∧ bb = false ∧ cb = false) from by cases wb <;> cases nb <;> cases sb <;> cases bb <;> cases cb <;> simp) with rfl | ⟨rfl, rfl⟩ | ⟨rfl, rfl, rfl⟩ | ⟨rfl, rfl, rfl, rfl⟩ | ⟨rfl, rfl, rfl, rfl, rfl⟩ | ⟨rfl, rfl, rfl, rfl, rfl⟩
      all_goals simp at hrk; subst hrk
      · go_wp2_with fail
        go_ret
        exact ⟨rfl, below_drewN (Below.refl _ _) _⟩
      · go_wp2_with fail
        go_ret
        exact ⟨rfl, below_drewN (Below.refl _ _) _⟩
      all_goals
        go_wp2_with fail
        refine (rsigns_any _).mono ?_
        rintro e w1 ⟨rfl, rfl⟩
        go_wp2_with fail
        refine (in_any _ 28 28 PL.signs s _ rfl (strs_new _ PL.signs _) (by omega)).mono ?_
        rintro e w1 ⟨rfl, rfl⟩
        rw [HSB.out]
        go_wp2_with fail
        go_ret
        exact ⟨rfl, (below_drewN (Below.refl _ _) _).alloc (by simp) _⟩
theorem kind_any (s : ByteArray) (w : World) (hs : s.size ≤ maxLen) :
    Calls Tryz.prog 65 #[.string s] w fun e w' => e = .returned (.int .u8 (PL.refKind s.data.toList : Int)) ∧ Below w.heap.size w w' := by
  by_cases h0 : 0 < s.size
  · exact kind_some s w hs h0
  · have hs0 : s.size = 0 := by omega
    have hsz : ((s.size : Int) == 0) = true := by rw [hs0]; rfl
    have hl : s.data.toList = [] := List.eq_nil_of_length_eq_zero (by rw [Array.length_toList]; exact hs0)
    rw [hl]
    clear hl hs0
    go_enter Tryz.func65, Tryz.ntmps65
    go_wp2_with fail
    go_ret
    exact ⟨rfl, Below.refl _ _⟩
end Go.Proofs.YtglaecalbamnkaaGreatDoor

namespace Go.Proofs.YtglaecalbamnkaaGreatDoor
open Go.RowKit

def RefLexEnd (s : ByteArray) (w : World) (e : Ending) (w' : World) : Prop :=
  ∃ v, e = .returned (.tuple #[v, .int .i64 ((PL.lex s.data.toList).2.1 : Int), .int .i64 ((PL.lex s.data.toList).2.2 : Int)]) ∧
    w'.ownsRow w.heap.size 58 3 v (PL.lex s.data.toList).1.length (toksCells (PL.lex s.data.toList).1) ∧ Below w.heap.size w w'
theorem infoRefTok : (Tryz.prog.info? 58).map (fun i => (i.zero, i.size, i.bytes)) = some (some (.agg #[.int .u8 0, .string ⟨#[]⟩, .int .i64 0]), 3, 32) := by kernel_rfl
theorem cut_between (s : ByteArray) (a b : Nat) : (s.extract a b).data.toList = (s.data.toList.drop a).take (b - a) := Lib.extract_data s a b

set_option maxHeartbeats 1000000 in
theorem rlex_any (s : ByteArray) (w : World) (hs : s.size ≤ 65536) : Calls Tryz.prog 46 #[.string s] w (RefLexEnd s w) := by
  have hlen : s.data.toList.length = s.size := Array.length_toList
  have HL := Lib.hid hlen
  clear hlen
  obtain ⟨i0, hi, hz0, hz1, hz2⟩ := info_parts infoRefTok
  have HI := Lib.hid hi
  have HZ0 := Lib.hid hz0
  have HZ1 := Lib.hid hz1
  have HZ2 := Lib.hid hz2
  clear hi hz0 hz1 hz2
  go_enter Tryz.func46, Tryz.ntmps46
  go_wp2_with fail
  go_loopw [5, 6] (fun v i wr => ∃ (pos : Nat) (ts : List PL.Tok), PL.Lexed s.data.toList pos ts ∧ i = .int .i64 pos ∧ wr.ownsRow w.heap.size 58 3 v ts.length (toksCells ts) ∧ Below w.heap.size w wr)
    (fun _ i _ => s.size - (intOf i).toNat)
  case atStart => exact ⟨0, [], PL.Lexed.start _, rfl, World.ownsRow_nil _ _ _ _, Below.refl _ _⟩
  case round =>
    obtain ⟨pos, ts, hlx, rfl, hown, hbel⟩ := hrel
    have hpl : pos ≤ s.size := by have := hlx.1; rw [HL.out] at this; exact this
    have hsz := hbel.size
    obtain ⟨wo, rfl⟩ : ∃ wo : World, wo = wr := ⟨_, rfl⟩
    by_cases hlt : pos < s.size
    · have hfl := PL.first_le (s.data.toList.drop pos)
      rw [List.length_drop, HL.out] at hfl
      have hne : s.data.toList.drop pos ≠ [] := by
        intro h; have := congrArg List.length h; rw [List.length_drop, HL.out] at this; simp at this; omega
      have hrf := PL.ref_first (s.data.toList.drop pos) hne
      rw [List.length_drop, HL.out] at hrf
      have hks : ∀ (j : Nat) (W : World), pos ≤ j → j ≤ s.size → Calls Tryz.prog 65 #[.string (s.extract pos j)] W fun e w' => e = .returned (.int .u8 (PL.refKind ((s.data.toList.drop pos).take (j - pos)) : Int)) ∧ Below W.heap.size W w' := fun j W _ h2 => by
        have := kind_any (s.extract pos j) W (by simp [maxLen]; omega)
        rw [cut_between] at this
        exact this
      generalize hk : (PL.first (s.data.toList.drop pos)).1 = kk at *
      generalize hm : (PL.first (s.data.toList.drop pos)).2 = mm at *
      have HRF := Lib.hid hrf
      have HKS := Lib.hid hks
      have HK := Lib.hid hk
      have HM := Lib.hid hm
      clear hk hm hrf hks hne
      go_wp2_with fail
      go_loopw [7] (fun x wr => ∃ (j : Nat), pos + mm ≤ j ∧ j ≤ s.size ∧ x = .int .i64 j ∧ Below wo.heap.size wo wr) (fun x _ => (intOf x).toNat)
      case atStart => exact ⟨s.size, by omega, Nat.le_refl _, rfl, Below.refl _ _⟩
      case round =>
        obtain ⟨j, hj1, hj2, rfl, hbr⟩ := hrel
        have hszr := hbr.size
        by_cases hgt : pos + mm < j
        · have hz := (HRF.out (j - pos) (by omega) (by omega)).2 (by omega)
          have hks := HKS.out j wr (by omega) hj2
          rw [hz] at hks
          have HKJ := Lib.hid hks
          have hlt2 : pos < j := by omega
          clear hz hks
          go_wp2_with (go_at_call 65; refine HKJ.out.mono ?_; rintro e w1 ⟨rfl, hb1⟩)
          go_roundw
          case rel => exact ⟨j - 1, by omega, by omega, by go_num, hbr.trans (hb1.mono hszr)⟩
          case measure => simp [intOf]; omega
        · obtain rfl : j = pos + mm := by omega
          by_cases h0 : mm = 0
          · subst h0
            go_wp2_with fail
            go_ret3
            have hl := hlx.bad (by rw [HL.out]; exact hlt) (by rw [HM.out]) (by rw [HL.out]; exact hs)
            unfold RefLexEnd
            rw [hl]
            exact ⟨_, rfl, World.ownsRow_nil _ _ _ _, hbel.trans (hbr.mono hsz)⟩
          · have hz := (HRF.out (pos + mm - pos) (by omega) (by omega)).1 (by omega)
            have hks := HKS.out (pos + mm)
            rw [hz.1] at hks
            have hkk : ((kk : Int) == 0) = false := beq_eq_false_iff_ne.2 (by have := hz.2; omega)
            have hen : ((pos : Int) + (mm : Int) == (pos : Int)) = false := beq_eq_false_iff_ne.2 (by omega)
            have HKJ := Lib.hid hks
            clear hks hz
            go_wp2_with (go_at_call 65; refine (HKJ.out _ (by omega) (by omega)).mono ?_; rintro e w1 ⟨rfl, hb1⟩)
            have hbw : Below wo.heap.size wo w1 := hbr.trans (hb1.mono hszr)
            have hown1 := own_below hown hbw
            have hz1 := hbw.size
            have q1 : (0 : Int) ≤ (pos : Int) := by omega
            have q2 : (pos : Int) ≤ (pos : Int) + (mm : Int) := by omega
            have q3 : (pos : Int) + (mm : Int) ≤ (s.size : Int) := by omega
            have htl := hlx.2.1
            clear hb1 hbr hkk hen
            go_region_held3 (fun _ => True) (exact trivial) (first | (go_at_call 65; refine (HKJ.out _ (by omega) (by omega)).mono ?_; rintro e w2 ⟨rfl, hb2⟩) | (refine step_append_lies _ (by rfl) _ _ _ (by rfl) w.heap.size 58 i0 _ 3 32 Tryz.underlying61 HI.out HZ0.out HZ1.out HZ2.out rfl (by omega) u5 ts.length (toksCells ts) (by rfl) ((own_below (w := w1.drew) hown1 hb2).alloc _) ⟨w2.heap.size, 0, none⟩ 1 1 [.int .u8 (kk : Int), .string (s.extract pos (pos + mm)), .int .i64 (pos : Int)] (by rfl) (by rfl) (World.news_of_block (cs := #[.int .u8 (kk : Int), .string (s.extract pos (pos + mm)), .int .i64 (pos : Int)]) (t := 58) (fr := (0, 0)) (heap_alloc_new w2 _)) (by simp [Value.oneCell']) (by omega) (by unfold maxLen; omega) (by omega) (by have := hb2.size; simp at this ⊢; omega) (w2.heap.size + 1) (by simp) ?_; intro gg cap w3 hown3 hgrow3 hat3 hlt3))
            have hnx := hlx.next (by rw [HL.out]; exact hlt) (by rw [HM.out]; exact h0)
            rw [HK.out, HM.out, ← cutd s pos mm] at hnx
            have hrow : w3.ownsRow w.heap.size 58 3 (.slice (some ⟨gg, 0, none⟩) (ts.length + 1) cap) (ts ++ [(⟨kk, (s.extract pos (pos + mm)).data.toList, pos⟩ : PL.Tok)]).length (toksCells (ts ++ [⟨kk, (s.extract pos (pos + mm)).data.toList, pos⟩])) := by
              rw [toksCells_snoc, List.length_append]
              exact hown3
            have hb2s := hb2.size
            have hd : w1.drew.heap.size = w1.heap.size := rfl
            have hbel3 : Below w.heap.size w w3 := by
              have h1 : Below w.heap.size w w1.drew := (hbel.trans (hbw.mono hsz)).drew
              have h2 : Below w.heap.size w w2 := h1.trans (hb2.mono (by rw [hd]; omega))
              have h3 := h2.alloc (by omega) (.cells #[.int .u8 (kk : Int), .string (s.extract pos (pos + mm)), .int .i64 (pos : Int)] 58)
              exact Below.grown h3 hgrow3 (by simp; omega) (fun k hk => (hown.lt k hk).1)
            have HN := Lib.hid hnx
            clear hown3 hgrow3 hat3 hnx hd
            go_wp2_with fail
            go_roundw
            case rel => exact ⟨pos + mm, _, HN.out, by go_num, hrow, hbel3⟩
            case measure => simp [intOf]; omega
    · go_wp2_with fail
      go_ret3
      have hp : pos = s.data.toList.length := by rw [HL.out]; omega
      subst hp
      have hl := hlx.done (by rw [HL.out]; exact hs)
      unfold RefLexEnd
      rw [hl]
      exact ⟨_, rfl, hown, hbel⟩
end Go.Proofs.YtglaecalbamnkaaGreatDoor

namespace Go.Proofs.YtglaecalbamnkaaGreatDoor
open Go.RowKit
section
set_option maxHeartbeats 1000000
set_option maxRecDepth 100000
theorem rname_any (s : ByteArray) (w : World) (hs : s.size ≤ maxLen) :
    Calls Tryz.prog 66 #[.string s] w fun e w' => e = .returned (.bool (PL.refName s.data.toList)) ∧ Below w.heap.size w w' := by
  have hsl : s.data.toList.length = s.size := Array.length_toList
  have hn : PL.refName s.data.toList = (decide (PL.refKind s.data.toList = 1) && decide (s.size ≤ 12) && !hasB PL.keywords s.data.toList) := by
    unfold PL.refName hasB; rw [hsl]
  generalize hN : PL.refName s.data.toList = nm at *
  have hf := kind_any s w hs
  generalize hk1 : PL.refKind s.data.toList = kk at *
  have HF := Lib.hid hf
  clear hN hsl hk1 hf
  by_cases e1 : kk = 1
  · have b1 : ((kk : Int) == 1) = true := by simp [e1]
    by_cases h12 : s.size ≤ 12
    · simp only [e1, h12, decide_true, Bool.true_and] at hn
      generalize hh : hasB PL.keywords s.data.toList = hb at *
      have HH := Lib.hid hh
      clear hh e1
      subst hn
      go_enter Tryz.func66, Tryz.ntmps66
      go_wp2_with fail
      refine HF.out.mono ?_
      rintro e w1 ⟨rfl, hb1⟩
      go_wp2_with fail
      refine (rkeywords_any _).mono ?_
      rintro e w2 ⟨rfl, rfl⟩
      go_wp2_with fail
      refine (in_any _ 13 13 PL.keywords s _ rfl (strs_new _ PL.keywords _) (by omega)).mono ?_
      rintro e w2 ⟨rfl, rfl⟩
      rw [HH.out]
      go_wp2_with fail
      go_ret
      exact ⟨rfl, hb1.alloc hb1.size _⟩
    · simp [h12] at hn
      subst hn
      clear e1
      go_enter Tryz.func66, Tryz.ntmps66
      go_wp2_with fail
      refine HF.out.mono ?_
      rintro e w1 ⟨rfl, hb1⟩
      go_wp2_with fail
      go_ret
      exact ⟨rfl, hb1⟩
  · have b1 : ((kk : Int) == 1) = false := beq_eq_false_iff_ne.2 (by omega)
    simp [e1] at hn
    subst hn
    clear e1
    go_enter Tryz.func66, Tryz.ntmps66
    go_wp2_with fail
    refine HF.out.mono ?_
    rintro e w1 ⟨rfl, hb1⟩
    go_wp2_with fail
    go_ret
    exact ⟨rfl, hb1⟩
end
end Go.Proofs.YtglaecalbamnkaaGreatDoor
