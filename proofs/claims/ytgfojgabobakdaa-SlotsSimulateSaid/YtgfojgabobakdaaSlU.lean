/- The reference's in, received and Pending. -/
import Derived.Test.YtgfojgabobakdaaSlT
import Derived.Test.YtgfojgabobakdaaPlainSl8
namespace Go.Proofs.Ytgfojgabobakdaa
open Go.RowKit Go.Maps Go.Sort Go.Lib
open SL (Tk Jb Ms Cd)
theorem find_first {p : Int → Bool} : ∀ {r : List Int} {i : Nat} {x : Int}, r[i]? = some x → p x = true → (∀ y ∈ r.take i, p y = false) → r.find? p = some x
  | [], _, _, h, _, _ => by simp at h
  | y :: r, 0, x, h, hp, _ => by
    simp at h; subst h
    rw [List.find?_cons_of_pos hp]
  | y :: r, i + 1, x, h, hp, hno => by
    rw [List.find?_cons_of_neg (by rw [hno y (by simp)]; simp)]
    exact find_first (by simpa using h) hp (fun z hz => hno z (by simp [hz]))
def NoP (p : Int → Bool) (l : List Int) : Prop := ∀ y ∈ l, p y = false
section
set_option maxHeartbeats 2000000
set_option maxRecDepth 100000
theorem in_any (r : List Int) (A : Option Addr) (c : Nat) (x : Int) (w : World) (h : Row w A (r.map (Value.int .i64))) (hl : r.length ≤ maxLen) :
    Calls Try.prog 50 #[.slice A r.length c, .int .i64 x] w fun e w' => e = .returned (.bool (SL.inn r x)) ∧ w' = w := by
  have hm : maxLen = 9223372036854775807 := rfl
  rw [hm] at hl
  have H := Lib.hid h
  obtain ⟨R, hR⟩ : ∃ R, R = SL.inn r x := ⟨_, rfl⟩
  have HR := Lib.hid hR
  rw [← hR]
  clear h hm hR
  go_enter Try.func50, Try.ntmps50
  go_wp2_with fail
  go_loopw [5] (fun v wr => ∃ k : Nat, k ≤ r.length ∧ v = .int .i64 (k : Int) ∧ NoX x (r.take k) ∧ wr = w) (fun v _ => r.length - (intOf v).toNat)
  case atStart => exact ⟨0, Nat.zero_le _, rfl, by simp [NoX], rfl⟩
  case round =>
    obtain ⟨k, hk, rfl, hno, rfl⟩ := hrel
    by_cases hlt : k < r.length
    · have q0 : (k : Int) < (r.length : Int) := by omega
      obtain ⟨y, hy⟩ : ∃ y, r[k]? = some y := ⟨_, List.getElem?_eq_getElem hlt⟩
      obtain ⟨b, o, rfl, _, cy⟩ := H.out.at (show (r.map (Value.int .i64))[k]? = some (.int .i64 y) by simp [hy])
      by_cases hxy : y = x
      · have e1 : (y == x) = true := by simp [hxy]
        have HT := Lib.hid (show R = true by
          rw [HR.out]; unfold SL.inn
          rw [List.contains_iff_mem, ← hxy]
          exact List.mem_of_getElem? hy)
        clear hy hno hxy
        go_wp2_with fail
        go_ret
        rw [HT.out]
        exact ⟨rfl, rfl⟩
      · have e1 : (y == x) = false := by simp [hxy]
        have HN := Lib.hid (show NoX x (r.take (k + 1)) from fun z hz => by
          rw [SL.take_snoc hy, List.mem_append] at hz
          rcases hz with hz | hz
          · exact hno z hz
          · simp at hz; subst hz; exact hxy)
        clear hy hno hxy
        go_wp2_with fail
        exact ⟨⟨k + 1, hlt, by simp, HN.out, trivial⟩, by simp [intOf]; omega⟩
    · have q0 : ¬ (k : Int) < (r.length : Int) := by omega
      have HF := Lib.hid (show R = false by
        rw [HR.out]; unfold SL.inn
        rw [← Bool.not_eq_true, List.contains_iff_mem]
        intro h
        rw [List.take_of_length_le (by omega)] at hno
        exact hno x h rfl)
      clear hno
      go_wp2_with fail
      go_ret
      rw [HF.out]
      exact ⟨rfl, rfl⟩
theorem received_any (S : List (List Int)) (A : Option Addr) (n c : Nat) (k : Int) (a t : Nat) (w : World) (hr : RelV w (.slice A n c) S) (hl : S.length ≤ 100000) (hlr : ∀ r ∈ S, r.length ≤ maxLen) (_ht : t ≤ 1000000) :
    Calls Try.prog 35 #[.slice A n c, .int .i64 k, .int .i64 (a : Int), .int .i64 (t : Int)] w fun e w' => e = .returned (.int .i64 (SL.cnt S k a t : Int)) ∧ w' = w := by
  have H := Lib.hid hr
  obtain rfl := relV_len hr
  have HL := Lib.hid hlr
  obtain ⟨R, hR⟩ : ∃ R, R = SL.cnt S k a t := ⟨_, rfl⟩
  have HR := Lib.hid hR
  rw [← hR]
  clear hr hlr hR
  go_enter Try.func35, Try.ntmps35
  go_wp2_with fail
  go_loopw [9, 10] (fun nv v wr => ∃ i : Nat, a ≤ i ∧ (i ≤ t ∨ i = a) ∧ (i ≤ S.length ∨ i = a) ∧ v = .int .i64 (i : Int) ∧ nv = .int .i64 (SL.cnt S k a i : Int) ∧ wr = w) (fun _ v _ => S.length - (intOf v).toNat)
  case atStart => exact ⟨a, Nat.le_refl _, .inr rfl, .inr rfl, rfl, by rw [SL.cnt_self _ _ _ _ (Nat.le_refl _)]; rfl, rfl⟩
  case round =>
    obtain ⟨i, hai, hit, hil, rfl, rfl, rfl⟩ := hrel
    have hle := SL.cnt_le S k a i
    by_cases h1 : i < t
    · have q0 : (i : Int) < (t : Int) := by omega
      by_cases h2 : i < S.length
      · have q1 : (i : Int) < (S.length : Int) := by omega
        obtain ⟨r, hr⟩ : ∃ r, S[i]? = some r := ⟨_, List.getElem?_eq_getElem h2⟩
        obtain ⟨b, o, A', c', rfl, _, cr, hrow⟩ := relV_at H.out hr
        have HC := Lib.hid (in_any r A' c' k _ hrow (HL.out r (List.mem_of_getElem? hr)))
        have HS := Lib.hid (show SL.cnt S k a (i + 1) = SL.cnt S k a i + (if SL.inn r k then 1 else 0) from SL.cnt_succ hr hai)
        clear hr hrow hit hil
        generalize SL.cnt S k a i = m at *
        go_wp2_with fail
        (with_reducible refine HC.out.mono ?_)
        rintro e w1 ⟨rfl, rfl⟩
        clear HC
        cases hn : SL.inn r k <;> rw [hn] at HS
        · have HS2 := Lib.hid (show SL.cnt S k a (i + 1) = m by rw [HS.out]; rfl)
          clear hn HS
          go_wp2_with fail
          exact ⟨⟨i + 1, by omega, .inl h1, .inl h2, by simp, by rw [HS2.out], trivial⟩, by simp [intOf]; omega⟩
        · have HS2 := Lib.hid (show SL.cnt S k a (i + 1) = m + 1 by rw [HS.out]; rfl)
          clear hn HS
          go_wp2_with fail
          exact ⟨⟨i + 1, by omega, .inl h1, .inl h2, by simp, by rw [HS2.out]; simp, trivial⟩, by simp [intOf]; omega⟩
      · have q1 : ¬ (i : Int) < (S.length : Int) := by omega
        have HE := Lib.hid (show R = SL.cnt S k a i by rw [HR.out]; exact SL.cnt_over (by omega) (by omega))
        clear hit hil
        go_wp2_with fail
        go_ret
        rw [HE.out]
        exact ⟨rfl, rfl⟩
    · have q0 : ¬ (i : Int) < (t : Int) := by omega
      have HE := Lib.hid (show R = SL.cnt S k a i by
        rw [HR.out]
        rcases hit with h | h
        · rw [show i = t from by omega]
        · subst h; rw [SL.cnt_self _ _ _ _ (by omega), SL.cnt_self _ _ _ _ (Nat.le_refl _)])
      clear hit hil
      go_wp2_with fail
      go_ret
      rw [HE.out]
      exact ⟨rfl, rfl⟩
def pendV (t : Tk) : Option (Int × Nat) → Array Value
  | none => #[.int .i64 0, .int .i64 0, .bool false]
  | some (x, n) => #[.int .i64 x, .int .i64 (n : Int), .bool (decide ((n : Int) < t.cost))]
theorem pendR_any (t : Tk) (r : List Int) (rA : Option Addr) (rc : Nat) (S : List (List Int)) (A : Option Addr) (n c : Nat) (k slot : Nat) (w : World) (ht : SL.okTk t = true) (hrr : Row w rA (r.map (Value.int .i64))) (hrl : r.length ≤ 10000) (hr0 : ∀ x ∈ r, 0 ≤ x) (hr : RelV w (.slice A n c) S) (hl : S.length ≤ 100000) (hlr : ∀ r ∈ S, r.length ≤ maxLen) (hs : slot ≤ 100000) :
    Calls Try.prog 32 #[.agg (tkV t), .slice rA r.length rc, .slice A n c, .int .i64 (k : Int), .int .i64 (slot : Int)] w fun e w' => e = .returned (.tuple (pendV t (SL.pendR t r S k slot))) ∧ Gr w w' := by
  obtain ⟨v1, v2, v3⟩ := SL.okTk_iff.1 ht
  have hk0 := Blk.new w 72 (tkV t)
  have hg0 := (Gr.refl w).alloc (.cells (tkV t) 72)
  have HRR := Lib.hid (hrr.below hg0.1)
  have HRS := Lib.hid (hr.below hg0.1)
  have HLR := Lib.hid hlr
  have HR0 := Lib.hid hr0
  have HG := Lib.hid hg0
  have HK := Lib.hid hk0
  rw [show tkV t = #[.string t.name, .int .i64 t.cost, .int .i64 t.per] from rfl] at *
  obtain ⟨R, hR⟩ : ∃ R, R = SL.pendR t r S k slot := ⟨_, rfl⟩
  have HR := Lib.hid hR
  rw [← hR]
  clear hrr hr hk0 hg0 hR hr0 hlr ht
  go_enter Try.func32, Try.ntmps32
  go_wp2_with fail
  go_loopw [13] (fun v wr => ∃ i : Nat, i ≤ r.length ∧ v = .int .i64 (i : Int) ∧ NoP (SL.pendP t.per slot) (r.take i) ∧ Gr w wr ∧ Blk wr w.heap.size 72 #[.string t.name, .int .i64 t.cost, .int .i64 t.per] ∧ Row wr rA (r.map (Value.int .i64)) ∧ RelV wr (.slice A n c) S) (fun v _ => r.length - (intOf v).toNat)
  case atStart => exact ⟨0, Nat.zero_le _, rfl, by simp [NoP], HG.out, HK.out, HRR.out, HRS.out⟩
  case round =>
    obtain ⟨i, hi, rfl, hno, hg, hk, hrr, hrs⟩ := hrel
    have HG := Lib.hid hg
    have HK := Lib.hid hk
    have HRR := Lib.hid hrr
    have HRS := Lib.hid hrs
    have c1 := hk.cell 1
    have c2 := hk.cell 2
    simp only [List.getElem?_toArray, List.getElem?_cons_succ, List.getElem?_cons_zero] at c1 c2
    by_cases hlt : i < r.length
    · have q0 : (i : Int) < (r.length : Int) := by omega
      obtain ⟨x, hx⟩ : ∃ x, r[i]? = some x := ⟨_, List.getElem?_eq_getElem hlt⟩
      obtain ⟨b, o, rfl, _, cx⟩ := hrr.at (show (r.map (Value.int .i64))[i]? = some (.int .i64 x) by simp [hx])
      have hx0 := HR0.out x (List.mem_of_getElem? hx)
      have HNS := Lib.hid (show SL.pendP t.per slot x = false → NoP (SL.pendP t.per slot) (r.take (i + 1)) from fun hf z hz => by
        rw [SL.take_snoc hx, List.mem_append] at hz
        rcases hz with hz | hz
        · exact hno z hz
        · simp at hz; subst hz; exact hf)
      by_cases h1 : x ≤ (slot : Int)
      · have d1 : decide (x ≤ (slot : Int)) = true := decide_eq_true h1
        have z1 : IntKind.i64.wrap (x + t.per) = x + t.per := IntWalk.i64_in _ (by omega)
        by_cases h2 : (slot : Int) < x + t.per
        · have d2 : decide ((slot : Int) < x + t.per) = true := decide_eq_true h2
          have HE := Lib.hid (show R = some (x, SL.cnt S k x.toNat slot) by
            rw [HR.out]; unfold SL.pendR
            rw [find_first hx (by unfold SL.pendP; rw [d1, d2]; rfl) hno]
            rfl)
          obtain ⟨a, ha⟩ : ∃ a : Nat, x = (a : Int) := ⟨x.toNat, by omega⟩
          subst ha
          rw [Int.toNat_natCast] at HE
          have HC := Lib.hid (received_any S A n c k a slot wr hrs hl HLR.out (by omega))
          generalize SL.cnt S k a slot = m at *
          clear hg hk hrr hrs hno hx
          go_wp2_with fail
          (with_reducible refine HC.out.mono ?_)
          rintro e w1 ⟨rfl, rfl⟩
          go_wp2_with fail
          go_quiet (fail)
          go_wp2_with fail
          go_ret3
          rw [HE.out]
          exact ⟨rfl, HG.out.drewN _⟩
        · have d2 : decide ((slot : Int) < x + t.per) = false := decide_eq_false h2
          have HN := Lib.hid (HNS.out (by unfold SL.pendP; rw [d2, Bool.and_false]))
          clear hg hk hrr hrs hno hx
          go_wp2_with fail
          exact ⟨⟨i + 1, hlt, by simp, HN.out, HG.out, HK.out, HRR.out, HRS.out⟩, by simp [intOf]; omega⟩
      · have d1 : decide (x ≤ (slot : Int)) = false := decide_eq_false h1
        have HN := Lib.hid (HNS.out (by unfold SL.pendP; rw [d1, Bool.false_and]))
        clear hg hk hrr hrs hno hx
        go_wp2_with fail
        exact ⟨⟨i + 1, hlt, by simp, HN.out, HG.out, HK.out, HRR.out, HRS.out⟩, by simp [intOf]; omega⟩
    · have q0 : ¬ (i : Int) < (r.length : Int) := by omega
      have HE := Lib.hid (show R = none by
        rw [HR.out]; unfold SL.pendR
        rw [List.take_of_length_le (by omega)] at hno
        rw [List.find?_eq_none.2 (fun y hy => by rw [hno y hy]; simp)]
        rfl)
      clear hg hk hrr hrs hno
      go_wp2_with fail
      go_ret3
      rw [HE.out]
      exact ⟨rfl, HG.out⟩
end
end Go.Proofs.Ytgfojgabobakdaa
