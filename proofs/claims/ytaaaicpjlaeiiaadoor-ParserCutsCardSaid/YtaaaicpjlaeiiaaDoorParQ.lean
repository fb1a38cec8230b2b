/- The contracts of the parser's array and variable; rows of known blocks. -/
import Derived.Test.YtaaaicpjlaeiiaaDoorParP
namespace Go.Proofs.YtaaaicpjlaeiiaaDoor
open Go.RowKit Go.Maps
open PP (Tree)

section
variable {w0 : World} {Z : Nat → Prop} {b : Nat} {X : Loc} {E : PP.Env} {σ : PP.St} {bl bl' : List OwnB} {ks : List (Option Addr × List Tree)} {W : World}
theorem Inv.perm (h : Inv w0 Z b X E σ bl ks W) (p : bl.Perm bl') : Inv w0 Z b X E σ bl' ks W := by
  have pm := p.map (·.1)
  refine ⟨h.ps, h.gx0, h.ps0, h.fr, h.zb, fun x hx => h.own x (p.mem_iff.2 hx), pm.nodup_iff.1 h.nd, fun x hx => (h.ks x hx).weak (fun g hg _ => ⟨hg.1, fun hm => hg.2 (pm.mem_iff.2 hm)⟩)⟩
end
/-- A slice that owns a row, and the block of that row, which is known whole. -/
def RowV (base : Nat) (e : TypeId) (size : Nat) (v : Value) (n : Nat) (xs : List Value) (bs : List OwnB) : Prop :=
  xs.length = n * size ∧ ((v = .slice none 0 0 ∧ n = 0 ∧ bs = []) ∨ ∃ g cap cur, v = .slice (some ⟨g, 0, none⟩) n cap ∧ base ≤ g ∧ n ≤ cap ∧ cap ≤ maxLen ∧ cur.size = cap * size ∧ cur.toList.take (n * size) = xs ∧ bs = [(g, e, cur)])
theorem RowV.nil (base : Nat) (e : TypeId) (size : Nat) : RowV base e size (.slice none 0 0) 0 [] [] := ⟨by simp, .inl ⟨rfl, rfl, rfl⟩⟩
section
variable {base : Nat} {e : TypeId} {size : Nat} {v : Value} {n : Nat} {xs : List Value} {bs : List OwnB}
theorem RowV.own (h : RowV base e size v n xs bs) {W : World} (hb : ∀ x ∈ bs, Blk W x.1 x.2.1 x.2.2) : W.ownsRow base e size v n xs := by
  refine ⟨h.1, ?_⟩
  rcases h.2 with ⟨rfl, rfl, _⟩ | ⟨g, cap, cur, rfl, h1, h2, h3, h4, h5, rfl⟩
  · exact .inl ⟨rfl, rfl⟩
  · exact .inr ⟨g, cap, cur, rfl, h1, hb (g, e, cur) (by simp), h2, h3, h4, h5⟩
theorem RowV.form (h : RowV base e size v n xs bs) : ∃ A c, v = .slice A n c := by
  rcases h.2 with ⟨rfl, rfl, _⟩ | ⟨g, cap, cur, rfl, _⟩ <;> exact ⟨_, _, rfl⟩
theorem RowV.blk (h : RowV base e size v n xs bs) {x : OwnB} (hx : x ∈ bs) : v.ownBlock = some x.1 := by
  rcases h.2 with ⟨rfl, rfl, rfl⟩ | ⟨g, cap, cur, rfl, _, _, _, _, _, rfl⟩
  · simp at hx
  · simp only [List.mem_cons, List.not_mem_nil, or_false] at hx; subst hx; rfl
end
theorem row_of_own {W : World} {base : Nat} {e : TypeId} {size : Nat} {v : Value} {n : Nat} {xs : List Value} (h : W.ownsRow base e size v n xs) : ∃ bs, RowV base e size v n xs bs ∧ (∀ x ∈ bs, Blk W x.1 x.2.1 x.2.2 ∧ base ≤ x.1) ∧ (bs.map (·.1)).Nodup := by
  rcases h.2 with ⟨rfl, rfl⟩ | ⟨g, cap, cur, rfl, h1, h2, h3, h4, h5, h6⟩
  · exact ⟨[], ⟨h.1, .inl ⟨rfl, rfl, rfl⟩⟩, fun x hx => by simp at hx, by simp⟩
  · refine ⟨[(g, e, cur)], ⟨h.1, .inr ⟨g, cap, cur, rfl, h1, h3, h4, h5, h6, rfl⟩⟩, fun x hx => ?_, by simp⟩
    simp only [List.mem_cons, List.not_mem_nil, or_false] at hx; subst hx
    exact ⟨h2, h1⟩
/-- After an append: the row's block is known anew. -/
theorem Inv.append {w0 : World} {Z : Nat → Prop} {b : Nat} {X : Loc} {E : PP.Env} {σ : PP.St} {bs rest : List OwnB} {ks : List (Option Addr × List Tree)} {W W' : World} {e : TypeId} {size : Nat} {v v' : Value} {n n' : Nat} {xs xs' : List Value} {g H : Nat}
    (h : Inv w0 Z b X E σ (bs ++ rest) ks W) (hr : RowV w0.heap.size e size v n xs bs) (hown : W'.ownsRow w0.heap.size e size v' n' xs') (hg : W.grownBy W' v.ownBlock) (hat : v.ownBlock = some g ∨ g = H) (hH : W.heap.size = H) (hv : v'.ownBlock = some g) :
    ∃ bs', RowV w0.heap.size e size v' n' xs' bs' ∧ Inv w0 Z b X E σ (bs' ++ rest) ks W' := by
  subst hH
  obtain ⟨bs', hr', hb', hnd'⟩ := row_of_own hown
  refine ⟨bs', hr', ?_⟩
  have hlt := h.lt
  have hvr : ∀ k, v.ownBlock = some k → w0.heap.size ≤ k ∧ k ∈ bs.map (·.1) := by
    intro k hk
    rcases hr.2 with ⟨rfl, rfl, _⟩ | ⟨g, cap, cur, rfl, h1, _, _, _, _, rfl⟩
    · simp [Value.ownBlock] at hk
    · simp [Value.ownBlock] at hk; subst hk; exact ⟨h1, by simp⟩
  have hF : Fr b w0 W' := h.fr.grow hg (fun k hk => (hvr k hk).1)
  obtain ⟨σ0, h0⟩ := h.ps0
  have hp : PS W' b X E σ := h0.fr hF ((hg.block b h.ps.lt (fun e => by have := (hvr b e.symm).1; omega)).trans h.ps.blk) h.ps.next
  have hnd := h.nd
  rw [List.map_append, List.nodup_append] at hnd
  have hrest : ∀ x ∈ rest, x.1 ≠ g := by
    intro x hx e
    rcases hat with h1 | h1
    · exact hnd.2.2 x.1 (by rw [e]; exact (hvr g h1).2) x.1 (List.mem_map_of_mem hx) rfl
    · have := (h.own x (by simp [hx])).1.lt; omega
  refine ⟨hp, h.gx0, h.ps0, hF, h.zb, fun x hx => ?_, ?_, fun x hx => ?_⟩
  · rcases List.mem_append.1 hx with hx | hx
    · exact hb' x hx
    · obtain ⟨k1, k2⟩ := h.own x (by simp [hx])
      refine ⟨(hg.block x.1 k1.lt (fun e => ?_)).trans k1, k2⟩
      exact hnd.2.2 x.1 (hvr x.1 e.symm).2 x.1 (List.mem_map_of_mem hx) rfl
  · rw [List.map_append, List.nodup_append]
    refine ⟨hnd', hnd.2.1, fun a ha c hc => ?_⟩
    obtain ⟨x, hx, rfl⟩ := List.mem_map.1 ha
    obtain ⟨y, hy, rfl⟩ := List.mem_map.1 hc
    have h1 := hr'.blk hx
    rw [hv] at h1
    injection h1 with h1
    exact fun e => hrest y hy (by rw [← e, ← h1])
  · have k0 := (h.ks x hx).weak (Z' := fun k => ((Z k ∨ w0.heap.size ≤ k) ∧ k ∉ (bs ++ rest).map (·.1)) ∧ k ≠ g) (fun k hk hlt => ⟨hk, by
      rintro rfl
      rcases hat with h1 | h1
      · exact hk.2 (by rw [List.map_append]; exact List.mem_append_left _ (hvr k h1).2)
      · omega⟩)
    refine (k0.keep ⟨hg.size, fun k hk hlt => hg.block k hlt (fun e => hk.1.2 ?_)⟩).weak (fun k hk _ => ⟨hk.1.1, fun hm => ?_⟩)
    · rw [List.map_append]; exact List.mem_append_left _ (hvr k e.symm).2
    · rw [List.map_append] at hm
      rcases List.mem_append.1 hm with hm | hm
      · obtain ⟨y, hy, rfl⟩ := List.mem_map.1 hm
        have h1 := hr'.blk hy
        rw [hv] at h1
        injection h1 with h1
        exact hk.2 h1.symm
      · exact hk.1.2 (by rw [List.map_append]; exact List.mem_append_right _ hm)

theorem array_result {fn : Func} {p : Tmp} (h : fn.results = #[.cell p 89]) {tmps : Array Value} {w : World} {g : Nat} {a0 a1 : Value} (hp : tmps.getD p undef = .pointer (some ⟨g, 0, none⟩)) (hb : Blk w g 89 #[a0, a1]) :
    (results fn tmps).run Tryd.prog w = .ok (.agg #[a0, a1]) w :=
  results_cell_row h tmps w g 89 _ (0, 0) _ hp hb Tryd.underlying89 rfl (by kernel_rfl)
section
set_option maxHeartbeats 1000000
set_option maxRecDepth 100000
variable {w0 : World} {Z : Nat → Prop} {b : Nat} {X : Loc} {E : PP.Env} {σ : PP.St} {bl : List OwnB} {ks : List (Option Addr × List Tree)} {W : World}
theorem array_inv (h : Inv w0 Z b X E σ bl ks W) (hlt : σ.next < E.ts.length) :
    Calls Tryd.prog 67 #[.pointer (some ⟨b, 0, none⟩)] W fun r w' => r = .returned (.agg #[.string ⟨(PP.arrayP E σ).2.name.toArray⟩, .int .i64 (PP.arrayP E σ).2.len]) ∧ Inv w0 Z b X E (PP.arrayP E σ).1 bl ks w' := by
  have hlen := h.ps.len
  have I0 := h.alloc #[.string ⟨#[]⟩, .int .i64 0] 89 rfl
  have cb := I0.ps.cells.2.1
  have fb := I0.ps.frozen 1
  have hbW := h.ps.lt
  have hbne : b ≠ W.heap.size := by omega
  have HI1 := Lib.hid ((h.adv hlt).alloc #[.string ⟨#[]⟩, .int .i64 0] 89 (n := W.heap.size) (by simp))
  have HI2 := Lib.hid (HI1.out.alloc #[.string ⟨#[]⟩, .int .i64 0] 89 (n := W.heap.size + 1) (by simp))
  generalize hT : PP.arrayP E σ = T at *
  have HT := Lib.hid hT
  clear hT h I0
  go_enter Tryd.func67, Tryd.ntmps67
  go_wp2_with fail
  refine (nameP_inv HI2.out).mono ?_
  rintro e w3 ⟨rfl, I3⟩
  generalize hq : PP.nameP E (PP.adv σ) = q at *
  obtain ⟨σ3, nm⟩ := q
  have Hq := Lib.hid hq
  have x0 := I3.b0.cell 0
  have x1 := I3.b0.frozen 0
  have I4 : Inv w0 Z b X E σ3 ((W.heap.size + 1, 89, #[.string ⟨nm.toArray⟩, .int .i64 0]) :: _) _ _ := I3.set0 0 (.string ⟨nm.toArray⟩)
  have HI4 := Lib.hid I4
  simp only [List.getElem?_toArray, List.getElem?_cons_zero] at x0
  clear I4 I3 hq cb fb HI1 HI2
  go_wp2_with fail
  refine (require_inv ⟨#[91]⟩ HI4.out).mono ?_
  rintro e w5 ⟨rfl, I5⟩
  have HI5 := Lib.hid I5
  clear I5 HI4 x0 x1
  go_wp2_with fail
  refine (numP_inv 1 32 (by omega) (by omega) (by omega) HI5.out).mono ?_
  rintro e w6 ⟨rfl, I6⟩
  generalize hV : PP.numP E (PP.require E σ3 [91]) 1 32 = q at *
  obtain ⟨σ6, val⟩ := q
  have hV' : PP.numP E (PP.require E σ3 [91]) 1 32 = (σ6, val) := hV
  have I6' : Inv w0 Z b X E σ6 _ _ w6 := I6
  have HV := Lib.hid hV'
  have x0 : w6.cell? ⟨W.heap.size + 1, 1, none⟩ = some (.int .i64 0) := I6'.b0.cell 1
  have x1 := I6'.b0.frozen 1
  have I7 : Inv w0 Z b X E σ6 ((W.heap.size + 1, 89, #[.string ⟨nm.toArray⟩, .int .i64 val]) :: _) _ _ := I6'.set0 1 (.int .i64 val)
  have HI7 := Lib.hid I7
  clear I7 I6 I6' HI5 hV hV'
  go_wp2_with fail
  refine (require_inv ⟨#[93]⟩ HI7.out).mono ?_
  rintro e w8 ⟨rfl, I8⟩
  have HI8 := Lib.hid I8
  clear I8 HI7 x0 x1
  go_wp2_with fail
  refine (require_inv ⟨#[59]⟩ HI8.out).mono ?_
  rintro e w9 ⟨rfl, I9⟩
  have n0 : w9.cell? ⟨W.heap.size + 1, 0, none⟩ = some (.string ⟨nm.toArray⟩) := I9.b0.cell 0
  have n1 : w9.cell? ⟨W.heap.size + 1, 1, none⟩ = some (.int .i64 val) := I9.b0.cell 1
  have r0 : w9.cell? ⟨W.heap.size, 0, none⟩ = some (.string ⟨#[]⟩) := I9.b1.cell 0
  have r1 : w9.cell? ⟨W.heap.size, 1, none⟩ = some (.int .i64 0) := I9.b1.cell 1
  have q0 := I9.b1.frozen 0
  have q1 := I9.b1.frozen 1
  have HQ := Lib.hid (fun v0 v1 => (show Inv w0 Z b X E _ (_ :: (W.heap.size, 89, #[v0, v1]) :: bl) ks _ from (I9.set1 0 v0).set1 1 v1))
  clear I9 HI8
  go_wp2_with fail
  refine bodyPost_ret (array_result rfl rfl (HQ.out _ _).b1) rfl ?_
  have e1 : T = (PP.require E (PP.require E σ6 [93]) [59], ⟨nm, val⟩) := by
    rw [← HT.out]; unfold PP.arrayP; simp only []; rw [Hq.out]; simp only []; rw [HV.out]
  rw [e1]
  exact ⟨rfl, (HQ.out _ _).drop.drop⟩
theorem variable_inv (h : Inv w0 Z b X E σ bl ks W) (hlt : σ.next < E.ts.length) :
    Calls Tryd.prog 126 #[.pointer (some ⟨b, 0, none⟩)] W fun r w' => r = .returned (.string ⟨(PP.variableP E σ).2.toArray⟩) ∧ Inv w0 Z b X E (PP.variableP E σ).1 bl ks w' := by
  have hlen := h.ps.len
  have cb := h.ps.cells.2.1
  have fb := h.ps.frozen 1
  have HI1 := Lib.hid (h.adv hlt)
  generalize hT : PP.variableP E σ = T at *
  have HT := Lib.hid hT
  clear hT h
  go_enter Tryd.func126, Tryd.ntmps126
  go_wp2_with fail
  refine (nameP_inv HI1.out).mono ?_
  rintro e w3 ⟨rfl, I3⟩
  generalize hq : PP.nameP E (PP.adv σ) = q at *
  obtain ⟨σ3, nm⟩ := q
  have Hq := Lib.hid hq
  have HI3 : Hid (Inv w0 Z b X E σ3 bl ks w3) := Lib.hid I3
  clear I3 hq cb fb HI1
  go_wp2_with fail
  refine (require_inv ⟨#[59]⟩ HI3.out).mono ?_
  rintro e w5 ⟨rfl, I5⟩
  have HI5 := Lib.hid I5
  clear I5 HI3
  go_wp2_with fail
  go_ret
  have e1 : T = (PP.require E σ3 [59], nm) := by
    rw [← HT.out]; unfold PP.variableP; simp only []; rw [Hq.out]
  rw [e1]
  exact ⟨rfl, HI5.out⟩
end
end Go.Proofs.YtaaaicpjlaeiiaaDoor
