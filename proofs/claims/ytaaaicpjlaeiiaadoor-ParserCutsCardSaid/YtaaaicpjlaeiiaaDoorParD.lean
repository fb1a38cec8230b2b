/- The contracts of the parser's name and number. -/
import Derived.Test.YtaaaicpjlaeiiaaDoorParC
namespace Go.Proofs.YtaaaicpjlaeiiaaDoor
open Go.RowKit Go.Maps

/-- The program's tables lie beside the parser. -/
structure Gl (w : World) (b : Nat) : Prop where
  signs : SignsIs w
  ne : 1 ≠ b
theorem Gl.fr {w w' : World} {b : Nat} (h : Gl w b) (k : Fr b w w') : Gl w' b := by
  refine ⟨?_, h.ne⟩
  obtain ⟨t, fr, hs⟩ := h.signs
  exact ⟨t, fr, (k.block _ h.signs.pos (by simpa using h.ne)).trans hs⟩

section
set_option maxHeartbeats 400000
set_option maxRecDepth 100000
variable {b : Nat} {X : Loc} {E : PP.Env} {σ : PP.St}
theorem nameP_any (w : World) (hg : Gl w b) (h : PS w b X E σ) :
    Calls Tryd.prog 102 #[.pointer (some ⟨b, 0, none⟩)] w fun r w' => r = .returned (.string ⟨(PP.nameP E σ).2.toArray⟩) ∧ PS w' b X E (PP.nameP E σ).1 ∧ Fr b w w' := by
  obtain ⟨c0, c1, _, _, _, _⟩ := h.cells
  have hmore : ∀ k, Calls Tryd.prog 62 #[.pointer (some ⟨b, 0, none⟩)] (w.drewN k) fun e w' => e = .returned (.bool (PP.more E σ)) ∧ ∃ n, w' = (w.drewN k).drewN n := fun k => more_any _ (h.drewN k)
  have hrej : ∀ k, Calls Tryd.prog 63 #[.pointer (some ⟨b, 0, none⟩)] (w.drewN k) fun r w' => r = .returned (.tuple #[]) ∧ PS w' b X E (PP.reject E σ) ∧ Fr b (w.drewN k) w' := fun k => reject_any _ (h.drewN k)
  have hfr : ∀ k w', Fr b (w.drewN k) w' → Fr b w w' := fun k w' hf => ((Fr.refl b w).drewN k).trans hf
  have HFR := Lib.hid hfr
  have HR := Lib.hid hrej
  clear hfr hrej
  cases hm : PP.more E σ with
  | false =>
    have hv : PP.nameP E σ = (PP.reject E σ, []) := by unfold PP.nameP; rw [hm]; rfl
    rw [hv]
    rw [hm] at hmore
    have HM := Lib.hid hmore
    clear hmore hm hv h hg
    go_enter Tryd.func102, Tryd.ntmps102
    go_wp2_with fail
    go_quiet ((go_at_call 62; exact quiet_dr (HM.out _)))
    go_wp2_with fail
    refine (HR.out _).mono ?_
    rintro e w2 ⟨rfl, hp, hf⟩
    go_wp2_with fail
    go_ret
    exact ⟨rfl, hp, HFR.out _ _ hf⟩
  | true =>
    have hn : σ.next < E.ts.length := by
      rcases PP.more_cases E σ with ⟨_, _, h3⟩ | ⟨h1, _⟩ | ⟨h1, _, _⟩
      · exact h3
      · rw [hm] at h1; cases h1
      · rw [hm] at h1; cases h1
    obtain ⟨g, o, hA, t0, t1, t2⟩ := h.cur hn
    have hbl := h.lt
    have hgne : g ≠ b := by
      obtain ⟨g', o', hA', hg', _⟩ := h.tok _ _ (PP.cur_at E hn)
      rw [hA] at hA'; injection hA' with hA'; injection hA' with hA' _; rw [hA']; exact hg'
    have hgl : g < w.heap.size := World.block_lt_of_cell? w _ t1
    have htl := h.txt _ (List.mem_of_getElem? (PP.cur_at E hn))
    have hname : ∀ k, Calls Tryd.prog 84 #[.string ⟨(PP.cur E σ).text.toArray⟩] (w.drewN k) fun e w' => e = .returned (.bool (PL.isName (PP.cur E σ).text)) ∧ Below (w.drewN k).heap.size (w.drewN k) w' := fun k =>
      name_any ⟨(PP.cur E σ).text.toArray⟩ (w.drewN k) hg.signs (by show (PP.cur E σ).text.toArray.size ≤ _; rw [List.size_toArray]; unfold maxLen; omega)
    have hv : PP.nameP E σ = if PL.isName (PP.cur E σ).text then (PP.adv σ, (PP.cur E σ).text) else (PP.reject E σ, []) := by unfold PP.nameP; rw [hm]; rfl
    rw [hv]
    rw [hA] at c0
    rw [hm] at hmore
    have HM := Lib.hid hmore
    have HN := Lib.hid hname
    have p1 : (0 : Int) ≤ (σ.next : Int) := by omega
    have p2 : (σ.next : Int) < (E.ts.length : Int) := by omega
    have hlen := h.len
    have HP := Lib.hid h
    have HA := Lib.hid hA
    have HG := Lib.hid hgne
    generalize hT : (PP.cur E σ).text = T at *
    clear hmore hname hm hv hA hT t0 t2 h hg htl hgne
    cases hb : PL.isName T with
    | false =>
      simp only [Bool.false_eq_true, if_false]
      go_enter Tryd.func102, Tryd.ntmps102
      go_wp2_with fail
      go_region_held3 (fun W => W.cell? ⟨b, 0, none⟩ = some (.slice (some ⟨g, o, none⟩) E.ts.length X.c) ∧ W.cell? ⟨b, 1, none⟩ = some (.int .i64 (σ.next : Int)) ∧ W.cell? ⟨g, o + σ.next * 3 + 1, none⟩ = some (.string ⟨T.toArray⟩)) (first | exact ⟨c0, c1, t1⟩ | exact ⟨(hb2.cell (p := ⟨b, 0, none⟩) hbl).trans c0, (hb2.cell (p := ⟨b, 1, none⟩) hbl).trans c1, (hb2.cell (p := ⟨g, o + σ.next * 3 + 1, none⟩) hgl).trans t1⟩) (first | (go_at_call 62; refine (HM.out 1).mono ?_; rintro e w1 ⟨rfl, n1, rfl⟩) | (go_at_call 84; refine (HN.out _).mono ?_; rintro e w2 ⟨rfl, hb2⟩))
      have HP2 := Lib.hid ((HP.out.drewN _).below hb2)
      have hf2 : Fr b w w2 := ((Fr.refl b w).drewN _).below hb2
      go_wp2_with fail
      refine (reject_any _ HP2.out).mono ?_
      rintro e w3 ⟨rfl, hp3, hf3⟩
      go_wp2_with fail
      go_ret
      exact ⟨rfl, hp3, hf2.trans hf3⟩
    | true =>
      simp only [if_true]
      go_enter Tryd.func102, Tryd.ntmps102
      go_wp2_with fail
      go_region_held3 (fun W => W.cell? ⟨b, 0, none⟩ = some (.slice (some ⟨g, o, none⟩) E.ts.length X.c) ∧ W.cell? ⟨b, 1, none⟩ = some (.int .i64 (σ.next : Int)) ∧ W.cell? ⟨g, o + σ.next * 3 + 1, none⟩ = some (.string ⟨T.toArray⟩)) (first | exact ⟨c0, c1, t1⟩ | exact ⟨(hb2.cell (p := ⟨b, 0, none⟩) hbl).trans c0, (hb2.cell (p := ⟨b, 1, none⟩) hbl).trans c1, (hb2.cell (p := ⟨g, o + σ.next * 3 + 1, none⟩) hgl).trans t1⟩) (first | (go_at_call 62; refine (HM.out 1).mono ?_; rintro e w1 ⟨rfl, n1, rfl⟩) | (go_at_call 84; refine (HN.out _).mono ?_; rintro e w2 ⟨rfl, hb2⟩))
      have hp2 := (HP.out.drewN _).below hb2
      have hf2 : Fr b w w2 := ((Fr.refl b w).drewN _).below hb2
      obtain ⟨d0, d1, _, _, _, _⟩ := hp2.cells
      rw [HA.out] at d0
      have f1 := hp2.frozen 1
      have d2 := (hb2.cell (p := ⟨g, o + σ.next * 3 + 1, none⟩) hgl).trans t1
      have hset := hp2.setNext (σ.next + 1) (by omega)
      have hfs := hf2.set 1 (.int .i64 ((σ.next : Int) + 1))
      have HSET := Lib.hid hset
      have HFS := Lib.hid hfs
      have hgb : g ≠ b := HG.out
      have e0 : (w2.setCell ⟨b, 1, none⟩ (.int .i64 ((σ.next : Int) + 1))).cell? ⟨b, 0, none⟩ = some (.slice (some ⟨g, o, none⟩) E.ts.length X.c) := by rw [World.cell?_setCell_other _ _ _ _ (by simp)]; exact d0
      have e1 : (w2.setCell ⟨b, 1, none⟩ (.int .i64 ((σ.next : Int) + 1))).cell? ⟨b, 1, none⟩ = some (.int .i64 ((σ.next : Int) + 1)) := HSET.out.cells.2.1
      have e2 : (w2.setCell ⟨b, 1, none⟩ (.int .i64 ((σ.next : Int) + 1))).cell? ⟨g, o + σ.next * 3 + 1, none⟩ = some (.string ⟨T.toArray⟩) := by rw [World.cell?_setCell_other _ _ _ _ (by intro h; injection h with h; exact hgb h.symm)]; exact d2
      clear hp2 hset hfs HP hb2 c0 c1 t1 hgb
      go_wp2_with fail
      have hw : IntKind.i64.wrap ((σ.next : Int) + 1 - 1) = (σ.next : Int) := by rw [show (σ.next : Int) + 1 - 1 = (σ.next : Int) from by omega]; exact IntWalk.i64_in _ (by omega)
      go_quiet (fail)
      go_wp2_with fail
      go_ret
      exact ⟨rfl, HSET.out.drewN _, HFS.out.drewN _⟩
end
end Go.Proofs.YtaaaicpjlaeiiaaDoor
