/- The law's small helpers: equal lists, the conversions. -/
import Derived.Test.YtdlbokcndbbgnaaSlH
import Derived.BigQuiet
namespace Go.Proofs.Ytdlbokcndbbgnaa
open Go.RowKit Go.Maps Go.Sort Go.Lib
open SL (Tk Jb Ms Cd)
theorem infoTk1 : (Try.prog.info? 97).map (fun i => (i.zero, i.size, i.bytes)) = some (some (.agg #[.string ⟨#[]⟩, .int .i64 0, .int .i64 0]), 3, 32) := by kernel_rfl
theorem row_own {w : World} {base : Nat} {e : TypeId} {size n c : Nat} {A : Option Addr} {xs : List Value} (h : w.ownsRow base e size (.slice A n c) n xs) : Row w A xs := fun hn => by
  have hn0 : 0 < n := by
    rcases Nat.eq_zero_or_pos n with h0 | h0
    · have := h.1
      rw [h0] at this
      simp at this
      exact absurd this hn
    · exact h0
  obtain ⟨g, cap, hv, _, hlt, _, hc⟩ := own_cells h hn0
  injection hv with hA
  subst hA
  exact ⟨g, 0, rfl, hlt, fun i v hi => by rw [Nat.zero_add]; exact hc i v hi⟩
section
set_option maxHeartbeats 1000000
set_option maxRecDepth 100000
theorem ints_any (l : List Int) (A A' : Option Addr) (c c' : Nat) (w : World) (h : Row w A (l.map (Value.int .i64))) (h' : Row w A' (l.map (Value.int .i64))) (hl : l.length ≤ maxLen) :
    Calls Try.prog 12 #[.slice A l.length c, .slice A' l.length c'] w fun e w' => e = .returned (.bool true) ∧ ∃ q, w' = w.drewN q := by
  have hm : maxLen = 9223372036854775807 := rfl
  rw [hm] at hl
  have e0 : ((l.length : Int) != (l.length : Int)) = false := by simp
  have H := Lib.hid h
  have H' := Lib.hid h'
  clear h h' hm
  go_enter Try.func12, Try.ntmps12
  go_wp2_with fail
  go_loopw [5] (fun v wr => ∃ k q : Nat, k ≤ l.length ∧ v = .int .i64 (k : Int) ∧ wr = w.drewN q) (fun v _ => l.length - (intOf v).toNat)
  case atStart => exact ⟨0, 0, Nat.zero_le _, rfl, rfl⟩
  case round =>
    obtain ⟨k, q, hk, rfl, hwr⟩ := hrel
    have HW := Lib.hid hwr
    by_cases hlt : k < l.length
    · have q0 : (k : Int) < (l.length : Int) := by omega
      obtain ⟨x, hx⟩ : ∃ x, l[k]? = some x := ⟨_, List.getElem?_eq_getElem hlt⟩
      obtain ⟨b, o, rfl, _, cx⟩ := H.out.at (show (l.map (Value.int .i64))[k]? = some (.int .i64 x) by simp [hx])
      obtain ⟨b', o', rfl, _, cx'⟩ := H'.out.at (show (l.map (Value.int .i64))[k]? = some (.int .i64 x) by simp [hx])
      have d0 : wr.cell? ⟨b, o + k, none⟩ = some (.int .i64 x) := by rw [hwr]; exact cx
      have d1 : wr.cell? ⟨b', o' + k, none⟩ = some (.int .i64 x) := by rw [hwr]; exact cx'
      have e1 : (x != x) = false := by simp
      clear hwr cx cx' hx
      go_wp2_with fail
      go_quiet (fail)
      go_wp2_with fail
      exact ⟨⟨k + 1, q + nq, hlt, by simp, by rw [HW.out, World.drewN_drewN]⟩, by simp [intOf]; omega⟩
    · have q0 : ¬ (k : Int) < (l.length : Int) := by omega
      clear hwr
      go_wp2_with fail
      go_ret
      exact ⟨rfl, q, HW.out⟩
theorem ms_at {w : World} {A : Option Addr} {l : List Ms} (h : Row w A (msC l)) {k : Nat} {x : Ms} (hx : l[k]? = some x) :
    ∃ b o, A = some ⟨b, o, none⟩ ∧ w.cell? ⟨b, o + k * 3, none⟩ = some (.int .i64 (x.task : Int)) ∧ w.cell? ⟨b, o + k * 3 + 1, none⟩ = some (.int .i64 x.rel) ∧ w.cell? ⟨b, o + k * 3 + 2, none⟩ = some (.int .i64 x.done) := by
  have ha := fun m hm => flat_at 3 msL (fun _ => rfl) l k m x hx hm
  obtain ⟨b, o, hA, hb, hc⟩ := h (fun e => by have := ha 0 (by omega); unfold msC at e; rw [e] at this; simp [msL] at this)
  exact ⟨b, o, hA, hc (k * 3) _ (ha 0 (by omega)), hc (k * 3 + 1) _ (ha 1 (by omega)), hc (k * 3 + 2) _ (ha 2 (by omega))⟩
theorem plain_any (l : List Tk) (A : Option Addr) (c : Nat) (w : World) (h : Row w A (tkRow l)) (hl : l.length ≤ 1000000) :
    Calls Try.prog 31 #[.slice A l.length c] w fun e w' => ∃ A' c', e = .returned (.slice A' l.length c') ∧ Row w' A' (tkRow l) ∧ Below w.heap.size w w' := by
  obtain ⟨i1, ki, kz0, kz1, kz2⟩ := info_parts infoTk1
  have K0 := Lib.hid ki
  have K1 := Lib.hid kz0
  have K2 := Lib.hid kz1
  have K3 := Lib.hid kz2
  have H := Lib.hid h
  clear ki kz0 kz1 kz2 h
  go_enter Try.func31, Try.ntmps31
  go_wp2_with fail
  go_loopw [3, 8] (fun v i wr => ∃ k : Nat, k ≤ l.length ∧ i = .int .i64 (k : Int) ∧ wr.ownsRow w.heap.size 97 3 v k (tkRow (l.take k)) ∧ Below w.heap.size w wr) (fun _ i _ => l.length - (intOf i).toNat)
  case atStart => exact ⟨0, Nat.zero_le _, rfl, World.ownsRow_nil _ _ _ _, Below.refl _ _⟩
  case round =>
    obtain ⟨k, hk, rfl, hown, hbw⟩ := hrel
    obtain ⟨A3, c3, rfl⟩ := own_form hown
    have HO := Lib.hid hown
    have HB := Lib.hid hbw
    have hsw := hbw.size
    by_cases hlt : k < l.length
    · have q0 : (k : Int) < (l.length : Int) := by omega
      obtain ⟨t, ht⟩ : ∃ t, l[k]? = some t := ⟨_, List.getElem?_eq_getElem hlt⟩
      obtain ⟨b, o, rfl, _, c0, c1, c2⟩ := (H.out.below hbw).tk ht
      have htk : l.take (k + 1) = l.take k ++ [t] := by
        obtain ⟨h1, h2⟩ := List.getElem?_eq_some_iff.1 ht
        rw [List.take_succ_eq_append_getElem h1, h2]
      have HTK := Lib.hid htk
      clear htk hown hbw ht
      go_wp2_with (at_builtin; refine wpList_append_own _ rfl _ _ 78 rfl w.heap.size 97 i1 (.agg #[.string ⟨#[]⟩, .int .i64 0, .int .i64 0]) 3 32 Try.underlying78 K0.out K1.out K2.out K3.out rfl (by decide) _ _ _ rfl ((HO.out.alloc _).alloc _) ⟨wr.heap.size + 1, 0, none⟩ 1 1 [.string t.name, .int .i64 t.cost, .int .i64 t.per] rfl rfl ?c1 ?c2 ?c3 ?c4 ?c5 ?_)
      case c1 => exact World.news_of_block (cs := #[.string t.name, .int .i64 t.cost, .int .i64 t.per]) (blk_second wr _ _ _ _)
      case c2 => intro u hu; simp at hu; rcases hu with rfl | rfl | rfl <;> rfl
      case c3 => unfold maxLen; omega
      case c4 => omega
      case c5 => simp; omega
      intro v' w6 hown6 hg6 _
      have hlt6 := ((HO.out.alloc (.cells #[.string t.name, .int .i64 t.cost, .int .i64 t.per] 34)).alloc (.cells #[.string t.name, .int .i64 t.cost, .int .i64 t.per] 97)).lt
      have hB6 : Below w.heap.size w w6 := Below.grown ((HB.out.alloc hsw (.cells #[.string t.name, .int .i64 t.cost, .int .i64 t.per] 34)).alloc (by simp; omega) (.cells #[.string t.name, .int .i64 t.cost, .int .i64 t.per] 97)) hg6 (by simp; omega) (fun k hk => (hlt6 k hk).1)
      have HB6 := Lib.hid hB6
      have HR6 := Lib.hid (show w6.ownsRow w.heap.size 97 3 v' (k + 1) (tkRow (l.take (k + 1))) from (by
        rw [HTK.out]
        have h := hown6
        simpa [tkRow, tkV] using h))
      clear hown6 hg6 hlt6 hB6
      go_wp2_with fail
      exact ⟨⟨k + 1, hlt, by simp, HR6.out, HB6.out⟩, by simp [intOf]; omega⟩
    · have q0 : ¬ (k : Int) < (l.length : Int) := by omega
      have hkl : k = l.length := by omega
      subst hkl
      have hr := row_own HO.out
      rw [List.take_length] at hr
      have HR := Lib.hid hr
      clear hr hown hbw
      go_wp2_with fail
      go_ret
      exact ⟨A3, ⟨c3, rfl⟩, HR.out, HB.out⟩
end
end Go.Proofs.Ytdlbokcndbbgnaa
