/- The contracts of the parser's small methods. -/
import Derived.Test.YtaaaicpjlaeiiaaDoorParA
namespace Go.Proofs.YtaaaicpjlaeiiaaDoor
open Go.RowKit Go.Maps

theorem quiet_dr {P : Program} {f : FuncId} {args : Array Value} {w : World} {n : Nat} {v : Value}
    (h : Calls P f args (w.drewN n) fun e w' => e = .returned v ∧ ∃ m, w' = (w.drewN n).drewN m) : Calls P f args (w.drewN n) fun e w'' => e = .returned v ∧ ∃ m, w'' = w.drewN m :=
  h.mono fun _ _ ⟨he, m, hm⟩ => ⟨he, n + m, by rw [hm, World.drewN_drewN]⟩

section
set_option maxHeartbeats 400000
set_option maxRecDepth 100000
variable {b : Nat} {X : Loc} {E : PP.Env} {σ : PP.St}
theorem sees_any (s : ByteArray) (w : World) (h : PS w b X E σ) :
    Calls Tryd.prog 101 #[.pointer (some ⟨b, 0, none⟩), .string s] w fun e w' => e = .returned (.bool (PP.sees E σ s.data.toList)) ∧ ∃ n, w' = w.drewN n := by
  obtain ⟨c0, c1, _, _, _, _⟩ := h.cells
  have hmore : ∀ k, Calls Tryd.prog 62 #[.pointer (some ⟨b, 0, none⟩)] (w.drewN k) fun e w' => e = .returned (.bool (PP.more E σ)) ∧ ∃ n, w' = (w.drewN k).drewN n := fun k => more_any _ (h.drewN k)
  have hs : PP.sees E σ s.data.toList = (PP.more E σ && ((PP.cur E σ).text == s.data.toList)) := rfl
  generalize hS : PP.sees E σ s.data.toList = S at *
  cases hm : PP.more E σ with
  | false =>
    rw [hm] at hs hmore
    simp at hs
    subst hs
    have HM := Lib.hid hmore
    clear hmore hS hm h
    go_enter Tryd.func101, Tryd.ntmps101
    go_wp2_with fail
    go_quiet ((go_at_call 62; exact quiet_dr (HM.out _)))
    go_wp2_with fail
    go_ret
    exact ⟨rfl, _, rfl⟩
  | true =>
    have hn : σ.next < E.ts.length := by
      rcases PP.more_cases E σ with ⟨_, _, h3⟩ | ⟨h1, _⟩ | ⟨h1, _, _⟩
      · exact h3
      · rw [hm] at h1; cases h1
      · rw [hm] at h1; cases h1
    obtain ⟨g, o, hA, t0, t1, t2⟩ := h.cur hn
    rw [hm] at hs hmore
    simp only [Bool.true_and] at hs
    rw [hA] at c0
    have HM := Lib.hid hmore
    have p1 : (0 : Int) ≤ (σ.next : Int) := by omega
    have p2 : (σ.next : Int) < (E.ts.length : Int) := by omega
    generalize hT : (PP.cur E σ).text = T at *
    clear hmore hS hm h hA hT t0 t2
    cases hb : (T == s.data.toList) with
    | false =>
      have e1 : (T == s.toList) = false := by rw [Lib.toList_data]; exact hb
      rw [hb] at hs
      subst hs
      clear hb
      go_enter Tryd.func101, Tryd.ntmps101
      go_wp2_with fail
      go_quiet ((go_at_call 62; exact quiet_dr (HM.out _)))
      go_wp2_with fail
      go_ret
      exact ⟨rfl, _, rfl⟩
    | true =>
      have e1 : (T == s.toList) = true := by rw [Lib.toList_data]; exact hb
      rw [hb] at hs
      subst hs
      clear hb
      go_enter Tryd.func101, Tryd.ntmps101
      go_wp2_with fail
      go_quiet ((go_at_call 62; exact quiet_dr (HM.out _)))
      go_wp2_with fail
      go_ret
      exact ⟨rfl, _, rfl⟩
theorem here_any (w : World) (h : PS w b X E σ) :
    Calls Tryd.prog 96 #[.pointer (some ⟨b, 0, none⟩)] w fun e w' => e = .returned (.int .i64 (PP.here E σ : Int)) ∧ ∃ n, w' = w.drewN n := by
  obtain ⟨c0, c1, c2, _, _, _⟩ := h.cells
  unfold PP.here
  by_cases hn : σ.next < E.ts.length
  · obtain ⟨g, o, hA, t0, t1, t2⟩ := h.cur hn
    rw [hA] at c0
    rw [if_pos hn]
    have p1 : (0 : Int) ≤ (σ.next : Int) := by omega
    have p2 : (σ.next : Int) < (E.ts.length : Int) := by omega
    have e2 : decide (σ.next < E.ts.length) = true := by simp; exact hn
    have e3 : decide ((σ.next : Int) < (E.ts.length : Int)) = true := by simp; exact hn
    clear h hA t0 t1
    go_enter Tryd.func96, Tryd.ntmps96
    go_wp2_with fail
    go_quiet (fail)
    go_wp2_with fail
    go_quiet (fail)
    go_wp2_with fail
    go_ret
    exact ⟨rfl, _, World.drewN_drewN _ _ _⟩
  · rw [if_neg hn]
    have e2 : decide (σ.next < E.ts.length) = false := by simpa using hn
    have e3 : decide ((σ.next : Int) < (E.ts.length : Int)) = false := by simpa using hn
    clear h hn
    go_enter Tryd.func96, Tryd.ntmps96
    go_wp2_with fail
    go_quiet (fail)
    go_wp2_with fail
    go_ret
    exact ⟨rfl, _, rfl⟩
/-- A store of the next index, or of the offset and the error. -/
theorem PS.setNext {w : World} (h : PS w b X E σ) (k : Nat) (hk : k ≤ E.ts.length) : PS (w.setCell ⟨b, 1, none⟩ (.int .i64 (k : Int))) b X E ⟨k, σ.off, σ.err⟩ := by
  refine h.fr ((Fr.refl b w).set 1 _) ?_ hk
  have := heap_setCell_same w b 1 (pCells X E σ) 109 (.int .i64 (k : Int)) h.blk
  rw [this]; rfl
theorem PS.setFail {w : World} (h : PS w b X E σ) (o e : Nat) : PS ((w.setCell ⟨b, 4, none⟩ (.int .i64 (o : Int))).setCell ⟨b, 5, none⟩ (.int .i64 (e : Int))) b X E ⟨σ.next, o, e⟩ := by
  have h1 := heap_setCell_same w b 4 (pCells X E σ) 109 (.int .i64 (o : Int)) h.blk
  have h2 := heap_setCell_same (w.setCell ⟨b, 4, none⟩ (.int .i64 (o : Int))) b 5 _ 109 (.int .i64 (e : Int)) h1
  refine h.fr (((Fr.refl b w).set 4 _).set 5 _) ?_ h.next
  rw [h2]; rfl
theorem fail_any (o e : Nat) (w : World) (h : PS w b X E σ) :
    Calls Tryd.prog 95 #[.pointer (some ⟨b, 0, none⟩), .int .i64 (o : Int), .int .i64 (e : Int)] w fun r w' => r = .returned (.tuple #[]) ∧ PS w' b X E (PP.fail σ o e) ∧ Fr b w w' := by
  obtain ⟨_, _, _, _, c4, c5⟩ := h.cells
  have f4 := h.frozen 4
  have f5 := h.frozen 5
  unfold PP.fail
  by_cases he : σ.err = 0
  · rw [if_pos he]
    have e1 : ((σ.err : Int) == 0) = true := by simp [he]
    have HP := Lib.hid (h.setFail o e)
    clear h he
    go_enter Tryd.func95, Tryd.ntmps95
    go_wp2_with fail
    go_end0
    exact ⟨rfl, HP.out, ((Fr.refl b w).set 4 _).set 5 _⟩
  · rw [if_neg he]
    have e1 : ((σ.err : Int) == 0) = false := beq_eq_false_iff_ne.2 (by omega)
    have HP := Lib.hid h
    clear h he
    go_enter Tryd.func95, Tryd.ntmps95
    go_wp2_with fail
    go_end0
    exact ⟨rfl, HP.out, Fr.refl b w⟩
theorem reject_any (w : World) (h : PS w b X E σ) :
    Calls Tryd.prog 63 #[.pointer (some ⟨b, 0, none⟩)] w fun r w' => r = .returned (.tuple #[]) ∧ PS w' b X E (PP.reject E σ) ∧ Fr b w w' := by
  obtain ⟨c0, c1, _, _, _, _⟩ := h.cells
  have hhere : ∀ k, Calls Tryd.prog 96 #[.pointer (some ⟨b, 0, none⟩)] (w.drewN k) fun e w' => e = .returned (.int .i64 (PP.here E σ : Int)) ∧ ∃ n, w' = (w.drewN k).drewN n := fun k => here_any _ (h.drewN k)
  have hfail : ∀ k e, Calls Tryd.prog 95 #[.pointer (some ⟨b, 0, none⟩), .int .i64 (PP.here E σ : Int), .int .i64 ((e : Nat) : Int)] (w.drewN k) fun r w' => r = .returned (.tuple #[]) ∧ PS w' b X E (PP.fail σ (PP.here E σ) e) ∧ Fr b (w.drewN k) w' := fun k e => fail_any _ e _ (h.drewN k)
  have HH := Lib.hid hhere
  have HF := Lib.hid hfail
  have hfr : ∀ k w', Fr b (w.drewN k) w' → Fr b w w' := fun k w' hf => ((Fr.refl b w).drewN k).trans hf
  have HFR := Lib.hid hfr
  clear hhere hfail hfr
  unfold PP.reject
  by_cases hn : σ.next < E.ts.length
  · rw [if_pos hn]
    have e2 : decide (σ.next < E.ts.length) = true := by simp; exact hn
    have e3 : decide ((σ.next : Int) < (E.ts.length : Int)) = true := by simp; exact hn
    clear h
    go_enter Tryd.func63, Tryd.ntmps63
    go_wp2_with fail
    go_quiet (fail)
    go_wp2_with fail
    refine (HH.out _).mono ?_
    rintro e w1 ⟨rfl, n1, rfl⟩
    go_wp2_with fail
    refine (HF.out _ 3).mono ?_
    rintro e w2 ⟨rfl, hp, hf⟩
    go_wp2_with fail
    go_end0
    exact ⟨rfl, hp, HFR.out _ _ hf⟩
  · rw [if_neg hn]
    have e2 : decide (σ.next < E.ts.length) = false := by simpa using hn
    have e3 : decide ((σ.next : Int) < (E.ts.length : Int)) = false := by simpa using hn
    clear h hn
    go_enter Tryd.func63, Tryd.ntmps63
    go_wp2_with fail
    go_quiet (fail)
    go_wp2_with fail
    refine (HH.out _).mono ?_
    rintro e w1 ⟨rfl, n1, rfl⟩
    go_wp2_with fail
    refine (HF.out _ 4).mono ?_
    rintro e w2 ⟨rfl, hp, hf⟩
    go_wp2_with fail
    go_end0
    exact ⟨rfl, hp, HFR.out _ _ hf⟩
theorem require_any (s : ByteArray) (w : World) (h : PS w b X E σ) :
    Calls Tryd.prog 103 #[.pointer (some ⟨b, 0, none⟩), .string s] w fun r w' => r = .returned (.tuple #[]) ∧ PS w' b X E (PP.require E σ s.data.toList) ∧ Fr b w w' := by
  obtain ⟨c0, c1, _, _, _, _⟩ := h.cells
  have f1 := h.frozen 1
  have hsees := sees_any s w h
  have hrej : ∀ k, Calls Tryd.prog 63 #[.pointer (some ⟨b, 0, none⟩)] (w.drewN k) fun r w' => r = .returned (.tuple #[]) ∧ PS w' b X E (PP.reject E σ) ∧ Fr b (w.drewN k) w' := fun k => reject_any _ (h.drewN k)
  have hfr : ∀ k w', Fr b (w.drewN k) w' → Fr b w w' := fun k w' hf => ((Fr.refl b w).drewN k).trans hf
  have HFR := Lib.hid hfr
  have HR := Lib.hid hrej
  have hlen := h.len
  unfold PP.require
  cases hs : PP.sees E σ s.data.toList with
  | false =>
    rw [hs] at hsees
    simp only [Bool.false_eq_true, if_false]
    have HS := Lib.hid hsees
    clear hsees hs hrej hfr h
    go_enter Tryd.func103, Tryd.ntmps103
    go_wp2_with fail
    refine HS.out.mono ?_
    rintro e w1 ⟨rfl, n1, rfl⟩
    go_wp2_with fail
    refine (HR.out _).mono ?_
    rintro e w2 ⟨rfl, hp, hf⟩
    go_wp2_with fail
    go_end0
    exact ⟨rfl, hp, HFR.out _ _ hf⟩
  | true =>
    have hn : σ.next < E.ts.length := by
      unfold PP.sees at hs
      rcases PP.more_cases E σ with ⟨_, _, h3⟩ | ⟨h1, _⟩ | ⟨h1, _, _⟩
      · exact h3
      · rw [h1] at hs; cases hs
      · rw [h1] at hs; cases hs
    rw [hs] at hsees
    simp only [if_true]
    have HS := Lib.hid hsees
    have hset : ∀ k, PS ((w.drewN k).setCell ⟨b, 1, none⟩ (.int .i64 ((σ.next : Int) + 1))) b X E (PP.adv σ) := fun k => (h.drewN k).setNext (σ.next + 1) (by omega)
    have hfs : ∀ k, Fr b w ((w.drewN k).setCell ⟨b, 1, none⟩ (.int .i64 ((σ.next : Int) + 1))) := fun k => ((Fr.refl b w).drewN k).set 1 _
    have HSET := Lib.hid hset
    have HFS := Lib.hid hfs
    clear hsees hs hrej hfr h hset hfs
    go_enter Tryd.func103, Tryd.ntmps103
    go_wp2_with fail
    refine HS.out.mono ?_
    rintro e w1 ⟨rfl, n1, rfl⟩
    go_wp2_with fail
    go_end0
    exact ⟨rfl, HSET.out _, HFS.out _⟩
end
end Go.Proofs.YtaaaicpjlaeiiaaDoor
