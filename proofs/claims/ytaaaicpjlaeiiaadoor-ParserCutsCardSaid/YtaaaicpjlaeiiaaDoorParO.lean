/- The seven ways through the parser's statement, and the statements tied (written by wip/genstmt.py). -/
import Derived.Test.YtaaaicpjlaeiiaaDoorParN
namespace Go.Proofs.YtaaaicpjlaeiiaaDoor
open Go.RowKit Go.Maps
open PP (Tree)

section
variable {w0 : World} {Z : Nat → Prop} {b : Nat} {X : Loc} {E : PP.Env} {σ : PP.St} {bl : List OwnB} {ks : List (Option Addr × List Tree)} {W : World}
theorem sees_b (s : ByteArray) {t : Bool} (ht : PP.sees E σ s.data.toList = t) (h : Inv w0 Z b X E σ bl ks W) :
    Calls Tryd.prog 101 #[.pointer (some ⟨b, 0, none⟩), .string s] W fun r w' => r = .returned (.bool t) ∧ Inv w0 Z b X E σ bl ks w' :=
  (sees_any s W h.ps).mono fun r w' ⟨h1, n, h2⟩ => ⟨by rw [h1, ht], by subst h2; exact h.drewN n⟩
theorem transfer_inv (kind : Nat) (h : Inv w0 Z b X E σ bl ks W) (k : Nat) (num : Int) (nm : List UInt8) (A : Option Addr) (c : Nat) (kids : List Tree) (hm : (A, kids) ∈ ks) :
    Calls Tryd.prog 143 #[.pointer (some ⟨b, 0, none⟩), .int .u8 (kind : Int), .agg #[.int .u8 (k : Int), .int .i64 num, .string ⟨nm.toArray⟩, .slice A kids.length c]] W fun r w' =>
      ∃ A' c', r = .returned (.agg #[.int .u8 (kind : Int), .int .i64 (PP.numP E (PP.require E σ [44]) 0 7).2, .string ⟨#[]⟩, .slice A' 1 c']) ∧ Inv w0 Z b X E (PP.transfer E kind (.node k num nm kids) σ).1 bl ((A', [.node k num nm kids]) :: ks) w' := by
  refine (transfer_any kind W (fun g => (Z g ∨ w0.heap.size ≤ g) ∧ g ∉ bl.map (·.1)) (fun hz => ?_) h.gx h.ps k num nm A c kids (h.ks _ hm)).mono ?_
  · rcases hz.1 with hz | hz
    · exact h.zb hz
    · have := h.lt; omega
  · rintro r w' ⟨v, rfl, ⟨k', num', nm', A', c', kids', rfl, ht, hk'⟩, hp, hf⟩
    have ht' : Tree.node kind (PP.numP E (PP.require E σ [44]) 0 7).2 [] [.node k num nm kids] = .node k' num' nm' kids' := ht
    injection ht' with e1 e2 e3 e4
    subst e1 e2 e3 e4
    refine ⟨A', c', rfl, (h.call hp hf).addKs (hk'.weak (fun g hg hlt => ?_))⟩
    rcases hg with hg | hg
    · exact hg
    · refine ⟨.inr (Nat.le_trans h.fr.size hg), fun hm => ?_⟩
      obtain ⟨y, hy, rfl⟩ := List.mem_map.1 hm
      have := (h.own y hy).1.lt
      omega
theorem stmt_of_lt {b : Nat} {X : Loc} {E : PP.Env} {σ σ1 : PP.St} (HS : ∀ σ', σ.next < σ'.next → StmtOk b X E σ') (h : σ.next < σ1.next) : ∀ σ', σ1.next ≤ σ'.next → StmtOk b X E σ' := fun σ' hn => HS σ' (by omega)
end

section
set_option maxHeartbeats 1000000
set_option maxRecDepth 100000
attribute [local go_sem ↓] Go.wp_at_zero Go.wp_at_succ
variable {b : Nat} {X : Loc} {E : PP.Env} {σ : PP.St}
theorem stmt_if (w : World) (hg : Gx w b X) (h : PS w b X E σ) (HS : ∀ σ', σ.next < σ'.next → StmtOk b X E σ') (s0 : PP.sees E σ [105, 102] = true) :
    Calls Tryd.prog 129 #[.pointer (some ⟨b, 0, none⟩)] w (TreeEnd b X E σ w fun σ' t => ∃ n, PP.statement E n σ = some (σ', t)) := by
  have hbl := h.lt
  have hlen := h.len
  have hpn := h.next
  have I0 := ((Inv.start (Z := NoZ) h hg (fun h => h)).alloc #[.int .u8 0, .int .i64 0, .string ⟨#[]⟩, .slice none 0 0] 24 rfl).alloc #[.int .u8 0, .int .i64 0, .string ⟨#[]⟩, .slice none 0 0] 24 (n := w.heap.size + 1) (by simp)
  have HI0 := Lib.hid I0
  have HHS := Lib.hid HS
  have S0 := Lib.hid s0
  clear I0 h hg HS s0
  go_enter Tryd.func129, Tryd.ntmps129
  go_wp2_with fail
  refine (sees_b ⟨#[105, 102]⟩ S0.out HI0.out).mono ?_
  rintro e v0 ⟨rfl, J0⟩
  have hnx : σ.next < (PP.require E σ [105, 102]).next := by unfold PP.require; rw [S0.out]; simp [PP.adv]
  have HC := Lib.hid (tree_inv J0 (choice_of _ J0.gx J0.ps (stmt_of_lt HHS.out hnx)))
  clear J0 hnx
  go_wp2_with fail
  refine HC.out.mono ?_
  rintro e w5 ⟨k5, num5, nm5, A5, c5, kids5, σ5, rfl, I5, ⟨m5, hr5⟩, hn5⟩
  have HFIN := Lib.hid (show PP.statement E (m5 + 1) σ = some (σ5, .node k5 num5 nm5 kids5) by rw [PP.statement]; simp only [S0.out, if_true]; exact hr5)
  have hnn := hn5
  obtain ⟨⟨n0, n1, n2, n3⟩, g0, g1, g2, g3⟩ := I5.b0.four
  obtain ⟨⟨r0, r1, r2, r3⟩, q0, q1, q2, q3⟩ := I5.b1.four
  have HQ := Lib.hid (fun v0 v1 v2 v3 => (I5.st0 (.int .u8 (k5 : Int)) (.int .i64 num5) (.string ⟨nm5.toArray⟩) (.slice A5 kids5.length c5)).st1 v0 v1 v2 v3)
  clear HC I5 hr5 hn5
  clear HHS
  go_wp2_with fail
  refine bodyPost_ret (node_result rfl rfl (HQ.out _ _ _ _).b1) rfl ?_
  exact (HQ.out _ _ _ _).done (k := k5) (num := num5) (nm := nm5) (c := c5) (A := A5) (kids := kids5) (by simp) ⟨_, HFIN.out⟩ hnn
theorem stmt_for (w : World) (hg : Gx w b X) (h : PS w b X E σ) (HS : ∀ σ', σ.next < σ'.next → StmtOk b X E σ') (s0 : PP.sees E σ [105, 102] = false) (s1 : PP.sees E σ [102, 111, 114] = true) :
    Calls Tryd.prog 129 #[.pointer (some ⟨b, 0, none⟩)] w (TreeEnd b X E σ w fun σ' t => ∃ n, PP.statement E n σ = some (σ', t)) := by
  have hbl := h.lt
  have hlen := h.len
  have hpn := h.next
  have I0 := ((Inv.start (Z := NoZ) h hg (fun h => h)).alloc #[.int .u8 0, .int .i64 0, .string ⟨#[]⟩, .slice none 0 0] 24 rfl).alloc #[.int .u8 0, .int .i64 0, .string ⟨#[]⟩, .slice none 0 0] 24 (n := w.heap.size + 1) (by simp)
  have HI0 := Lib.hid I0
  have HHS := Lib.hid HS
  have S0 := Lib.hid s0
  have S1 := Lib.hid s1
  clear I0 h hg HS s0 s1
  go_enter Tryd.func129, Tryd.ntmps129
  go_wp2_with fail
  refine (sees_b ⟨#[105, 102]⟩ S0.out HI0.out).mono ?_
  rintro e v0 ⟨rfl, J0⟩
  go_wp2_with fail
  refine (sees_b ⟨#[102, 111, 114]⟩ S1.out J0).mono ?_
  rintro e v1 ⟨rfl, J1⟩
  have hlt := (PP.sees_err E S1.out).2
  have herr := (PP.sees_err E S1.out).1
  have cb := J1.ps.cells.2.1
  have fb := J1.ps.frozen 1
  have HA := Lib.hid (J1.adv hlt)
  clear J0 J1 herr
  go_wp2_with fail
  refine (nameP_inv HA.out).mono ?_
  rintro e w3 ⟨rfl, I3⟩
  generalize hNM : PP.nameP E (PP.adv σ) = q at *
  obtain ⟨σ3, nm⟩ := q
  have HNM := Lib.hid hNM
  have l3 : σ.next + 1 ≤ σ3.next := by have := (PP.le_nameP E (PP.adv σ)).1; rw [hNM] at this; exact this
  clear hNM
  simp only [] at I3
  obtain ⟨⟨n0, n1, n2, n3⟩, g0, g1, g2, g3⟩ := I3.b0.four
  have HI4 := Lib.hid (I3.st0 (.int .u8 42) (.int .i64 0) (.string ⟨nm.toArray⟩) (.slice none 0 0))
  clear I3 HA cb fb
  go_wp2_with fail
  clear n0 n1 n2 n3 g0 g1 g2 g3
  refine (require_inv ⟨#[60]⟩ HI4.out).mono ?_
  rintro e w5 ⟨rfl, I5⟩
  have HI5 := Lib.hid I5
  clear I5 HI4
  go_wp2_with fail
  refine (numP_inv 1 1000 (by omega) (by omega) (by omega) HI5.out).mono ?_
  rintro e w6 ⟨rfl, I6⟩
  generalize hV : PP.numP E (PP.require E σ3 [60]) 1 1000 = q at *
  obtain ⟨σ6, val⟩ := q
  have hV' : PP.numP E (PP.require E σ3 [60]) 1 1000 = (σ6, val) := hV
  have I6' : Inv w NoZ b X E σ6 _ _ w6 := I6
  have l6 : σ3.next ≤ σ6.next := by have h1 := (PP.le_require E σ3 [60]).1; have h2 := (PP.le_numP E (PP.require E σ3 [60]) 1 1000).1; rw [hV'] at h2; exact Nat.le_trans h1 h2
  have HV := Lib.hid hV'
  obtain ⟨⟨n0, n1, n2, n3⟩, g0, g1, g2, g3⟩ := I6'.b0.four
  have I7 : Inv w NoZ b X E σ6 ((w.heap.size + 1, 24, #[.int .u8 42, .int .i64 val, .string ⟨nm.toArray⟩, .slice none 0 0]) :: _) _ _ := I6'.set0 1 (.int .i64 val)
  have HI7 := Lib.hid I7
  clear I7 I6 I6' HI5 hV hV'
  go_wp2_with fail
  have hlt7 : σ.next < σ6.next := by omega
  refine (tree_inv HI7.out (block_of _ HI7.out.gx HI7.out.ps (stmt_of_lt HHS.out hlt7))).mono ?_
  rintro e w8 ⟨k8, num8, nm8, A8, c8, kids8, σ8, rfl, I8, ⟨m8, hr8⟩, hn8⟩
  clear n0 n1 n2 n3 g0 g1 g2 g3
  have HFIN := Lib.hid (show PP.statement E (m8 + 1) σ = some (σ8, .node 42 val nm [.node k8 num8 nm8 kids8]) by rw [PP.statement]; simp only [S0.out, S1.out, Bool.false_eq_true, if_false, if_true]; rw [HNM.out]; simp only []; rw [HV.out]; simp only []; rw [hr8]; rfl)
  have hnn : σ.next ≤ σ8.next := by have : σ6.next ≤ σ8.next := hn8; omega
  obtain ⟨⟨n0, n1, n2, n3⟩, g0, g1, g2, g3⟩ := I8.b0.four
  obtain ⟨⟨r0, r1, r2, r3⟩, q0, q1, q2, q3⟩ := I8.b1.four
  have hNlt := I8.b0.lt
  have hRlt := I8.b1.lt
  have HQ := Lib.hid (fun v0 v1 v2 v3 => ((I8.set0 3 (.slice (some ⟨w8.heap.size, 0, none⟩) 1 1)).st1 v0 v1 v2 v3).kids1 (k := k8) (num := num8) (nm := nm8) (A := A8) (c := c8) (kids := kids8) (by simp) (n := w8.heap.size) (by simp))
  clear HI7 I8 hr8 hn8 HNM
  clear HHS
  go_wp2_with fail
  refine bodyPost_ret (node_result rfl rfl (HQ.out _ _ _ _).b1) rfl ?_
  exact (HQ.out _ _ _ _).done (A := some ⟨w8.heap.size, 0, none⟩) (kids := [.node k8 num8 nm8 kids8]) (k := 42) (num := val) (nm := nm) (c := 1) (by simp) ⟨_, HFIN.out⟩ hnn
theorem stmt_lock (w : World) (hg : Gx w b X) (h : PS w b X E σ) (HS : ∀ σ', σ.next < σ'.next → StmtOk b X E σ') (s0 : PP.sees E σ [105, 102] = false) (s1 : PP.sees E σ [102, 111, 114] = false) (s2 : PP.sees E σ [119, 104, 105, 108, 101] = false) (s3 : PP.sees E σ [105, 110] = false) (s4 : PP.sees E σ [111, 117, 116] = false) (s5 : PP.sees E σ [108, 111, 99, 107] = true) :
    Calls Tryd.prog 129 #[.pointer (some ⟨b, 0, none⟩)] w (TreeEnd b X E σ w fun σ' t => ∃ n, PP.statement E n σ = some (σ', t)) := by
  have hbl := h.lt
  have hlen := h.len
  have hpn := h.next
  have I0 := ((Inv.start (Z := NoZ) h hg (fun h => h)).alloc #[.int .u8 0, .int .i64 0, .string ⟨#[]⟩, .slice none 0 0] 24 rfl).alloc #[.int .u8 0, .int .i64 0, .string ⟨#[]⟩, .slice none 0 0] 24 (n := w.heap.size + 1) (by simp)
  have HI0 := Lib.hid I0
  have HHS := Lib.hid HS
  have S0 := Lib.hid s0
  have S1 := Lib.hid s1
  have S2 := Lib.hid s2
  have S3 := Lib.hid s3
  have S4 := Lib.hid s4
  have S5 := Lib.hid s5
  clear I0 h hg HS s0 s1 s2 s3 s4 s5
  go_enter Tryd.func129, Tryd.ntmps129
  go_wp2_with fail
  refine (sees_b ⟨#[105, 102]⟩ S0.out HI0.out).mono ?_
  rintro e v0 ⟨rfl, J0⟩
  go_wp2_with fail
  refine (sees_b ⟨#[102, 111, 114]⟩ S1.out J0).mono ?_
  rintro e v1 ⟨rfl, J1⟩
  go_wp2_with fail
  refine (sees_b ⟨#[119, 104, 105, 108, 101]⟩ S2.out J1).mono ?_
  rintro e v2 ⟨rfl, J2⟩
  go_wp2_with fail
  refine (sees_b ⟨#[105, 110]⟩ S3.out J2).mono ?_
  rintro e v3 ⟨rfl, J3⟩
  go_wp2_with fail
  refine (sees_b ⟨#[111, 117, 116]⟩ S4.out J3).mono ?_
  rintro e v4 ⟨rfl, J4⟩
  go_wp2_with fail
  refine (sees_b ⟨#[108, 111, 99, 107]⟩ S5.out J4).mono ?_
  rintro e v5 ⟨rfl, J5⟩
  have hlt := (PP.sees_err E S5.out).2
  have herr := (PP.sees_err E S5.out).1
  have cb := J5.ps.cells.2.1
  have fb := J5.ps.frozen 1
  have HA := Lib.hid (J5.adv hlt)
  clear J0 J1 J2 J3 J4 J5 herr
  go_wp2_with fail
  refine (nameP_inv HA.out).mono ?_
  rintro e w3 ⟨rfl, I3⟩
  generalize hNM : PP.nameP E (PP.adv σ) = q at *
  obtain ⟨σ3, nm⟩ := q
  have HNM := Lib.hid hNM
  have l3 : σ.next + 1 ≤ σ3.next := by have := (PP.le_nameP E (PP.adv σ)).1; rw [hNM] at this; exact this
  clear hNM
  simp only [] at I3
  obtain ⟨⟨n0, n1, n2, n3⟩, g0, g1, g2, g3⟩ := I3.b0.four
  have HI4 := Lib.hid (I3.st0 (.int .u8 46) (.int .i64 0) (.string ⟨nm.toArray⟩) (.slice none 0 0))
  clear I3 HA cb fb
  go_wp2_with fail
  have hlt7 : σ.next < σ3.next := by omega
  refine (tree_inv HI4.out (block_of _ HI4.out.gx HI4.out.ps (stmt_of_lt HHS.out hlt7))).mono ?_
  rintro e w8 ⟨k8, num8, nm8, A8, c8, kids8, σ8, rfl, I8, ⟨m8, hr8⟩, hn8⟩
  clear n0 n1 n2 n3 g0 g1 g2 g3
  have HFIN := Lib.hid (show PP.statement E (m8 + 1) σ = some (σ8, .node 46 0 nm [.node k8 num8 nm8 kids8]) by rw [PP.statement]; simp only [S0.out, S1.out, S2.out, S3.out, S4.out, S5.out, Bool.false_eq_true, if_false, if_true]; rw [HNM.out]; simp only []; rw [hr8]; rfl)
  have hnn : σ.next ≤ σ8.next := by have : σ3.next ≤ σ8.next := hn8; omega
  obtain ⟨⟨n0, n1, n2, n3⟩, g0, g1, g2, g3⟩ := I8.b0.four
  obtain ⟨⟨r0, r1, r2, r3⟩, q0, q1, q2, q3⟩ := I8.b1.four
  have hNlt := I8.b0.lt
  have hRlt := I8.b1.lt
  have HQ := Lib.hid (fun v0 v1 v2 v3 => ((I8.set0 3 (.slice (some ⟨w8.heap.size, 0, none⟩) 1 1)).st1 v0 v1 v2 v3).kids1 (k := k8) (num := num8) (nm := nm8) (A := A8) (c := c8) (kids := kids8) (by simp) (n := w8.heap.size) (by simp))
  clear HI4 I8 hr8 hn8 HNM
  clear HHS
  go_wp2_with fail
  refine bodyPost_ret (node_result rfl rfl (HQ.out _ _ _ _).b1) rfl ?_
  exact (HQ.out _ _ _ _).done (A := some ⟨w8.heap.size, 0, none⟩) (kids := [.node k8 num8 nm8 kids8]) (k := 46) (num := 0) (nm := nm) (c := 1) (by simp) ⟨_, HFIN.out⟩ hnn
theorem stmt_while (w : World) (hg : Gx w b X) (h : PS w b X E σ) (HS : ∀ σ', σ.next < σ'.next → StmtOk b X E σ') (s0 : PP.sees E σ [105, 102] = false) (s1 : PP.sees E σ [102, 111, 114] = false) (s2 : PP.sees E σ [119, 104, 105, 108, 101] = true) :
    Calls Tryd.prog 129 #[.pointer (some ⟨b, 0, none⟩)] w (TreeEnd b X E σ w fun σ' t => ∃ n, PP.statement E n σ = some (σ', t)) := by
  have hbl := h.lt
  have hlen := h.len
  have hpn := h.next
  have I0 := ((Inv.start (Z := NoZ) h hg (fun h => h)).alloc #[.int .u8 0, .int .i64 0, .string ⟨#[]⟩, .slice none 0 0] 24 rfl).alloc #[.int .u8 0, .int .i64 0, .string ⟨#[]⟩, .slice none 0 0] 24 (n := w.heap.size + 1) (by simp)
  have HI0 := Lib.hid I0
  have HHS := Lib.hid HS
  have S0 := Lib.hid s0
  have S1 := Lib.hid s1
  have S2 := Lib.hid s2
  clear I0 h hg HS s0 s1 s2
  go_enter Tryd.func129, Tryd.ntmps129
  go_wp2_with fail
  refine (sees_b ⟨#[105, 102]⟩ S0.out HI0.out).mono ?_
  rintro e v0 ⟨rfl, J0⟩
  go_wp2_with fail
  refine (sees_b ⟨#[102, 111, 114]⟩ S1.out J0).mono ?_
  rintro e v1 ⟨rfl, J1⟩
  go_wp2_with fail
  refine (sees_b ⟨#[119, 104, 105, 108, 101]⟩ S2.out J1).mono ?_
  rintro e v2 ⟨rfl, J2⟩
  have hlt := (PP.sees_err E S2.out).2
  have herr := (PP.sees_err E S2.out).1
  have cb := J2.ps.cells.2.1
  have fb := J2.ps.frozen 1
  have HA := Lib.hid (J2.adv hlt)
  clear J0 J1 J2 herr
  go_wp2_with fail
  refine (tree_inv HA.out (expression_any _ _ HA.out.gx HA.out.ps)).mono ?_
  rintro e w3 ⟨k3, num3, nm3, A3, c3, kids3, σ3, rfl, I3, ⟨m3, hr3⟩, hn3⟩
  have HR3 := Lib.hid hr3
  have l3 : σ.next + 1 ≤ σ3.next := hn3
  have HI4 := Lib.hid (I3.alloc #[.int .u8 (k3 : Int), .int .i64 num3, .string ⟨nm3.toArray⟩, .slice A3 kids3.length c3] 24 rfl)
  clear I3 HA cb fb hr3 hn3
  go_wp2_with fail
  refine (require_inv ⟨#[98, 111, 117, 110, 100]⟩ HI4.out).mono ?_
  rintro e w5 ⟨rfl, I5⟩
  have HI5 := Lib.hid I5
  clear I5 HI4
  go_wp2_with fail
  refine (numP_inv 1 1000 (by omega) (by omega) (by omega) HI5.out).mono ?_
  rintro e w6 ⟨rfl, I6⟩
  generalize hV : PP.numP E (PP.require E σ3 [98, 111, 117, 110, 100]) 1 1000 = q at *
  obtain ⟨σ6, val⟩ := q
  have hV' : PP.numP E (PP.require E σ3 [98, 111, 117, 110, 100]) 1 1000 = (σ6, val) := hV
  have I6' : Inv w NoZ b X E σ6 _ _ w6 := I6
  have l6 : σ3.next ≤ σ6.next := by have h1 := (PP.le_require E σ3 [98, 111, 117, 110, 100]).1; have h2 := (PP.le_numP E (PP.require E σ3 [98, 111, 117, 110, 100]) 1 1000).1; rw [hV'] at h2; exact Nat.le_trans h1 h2
  have HV := Lib.hid hV'
  have hlt7 : σ.next < σ6.next := by omega
  obtain ⟨⟨n0, n1, n2, n3⟩, g0, g1, g2, g3⟩ := I6'.b1.four
  have HI7 := Lib.hid (I6'.st1 (.int .u8 43) (.int .i64 val) (.string ⟨#[]⟩) (.slice none 0 0))
  clear I6 I6' HI5 hV hV'
  go_wp2_with fail
  clear n0 n1 n2 n3 g0 g1 g2 g3
  generalize ((((w6.setCell ⟨w.heap.size + 1, 0, none⟩ (.int .u8 43)).setCell ⟨w.heap.size + 1, 1, none⟩ (.int .i64 val)).setCell ⟨w.heap.size + 1, 2, none⟩ (.string ⟨#[]⟩)).setCell ⟨w.heap.size + 1, 3, none⟩ (.slice none 0 0)) = w7 at *
  obtain ⟨⟨x0, x1, x2, x3⟩, _, _, _, _⟩ := HI7.out.b0.four
  have HB7 := Lib.hid (tree_inv HI7.out (block_of _ HI7.out.gx HI7.out.ps (stmt_of_lt HHS.out hlt7)))
  have HB7d := Lib.hid (tree_inv HI7.out.drew (block_of _ HI7.out.drew.gx HI7.out.drew.ps (stmt_of_lt HHS.out hlt7)))
  go_region_held3 (fun W => W.cell? ⟨w3.heap.size, 0, none⟩ = some (.int .u8 (k3 : Int)) ∧ W.cell? ⟨w3.heap.size, 1, none⟩ = some (.int .i64 num3) ∧ W.cell? ⟨w3.heap.size, 2, none⟩ = some (.string ⟨nm3.toArray⟩) ∧ W.cell? ⟨w3.heap.size, 3, none⟩ = some (.slice A3 kids3.length c3))
   (with_reducible first | exact HI7.out.b0.four.1 | exact HI7.out.drew.b0.four.1 | exact I8.b0.four.1 | exact (I8.more _).b0.four.1 | exact ((I8.set1 _ _).more _).b0.four.1)
   (first | (go_at_call 142; (first | (with_reducible refine HB7.out.mono ?_) | (with_reducible refine HB7d.out.mono ?_)); rintro e w8 ⟨k8, num8, nm8, A8, c8, kids8, σ8, rfl, I8, ⟨m8, hr8⟩, hn8⟩; obtain ⟨⟨z0, z1, z2, z3⟩, q0, q1, q2, q3⟩ := I8.b1.four; obtain ⟨⟨r0, r1, r2, r3⟩, p0, p1, p2, p3⟩ := I8.b2.four; have hNlt := I8.b1.lt; have hRlt := I8.b2.lt))
  have HFIN := Lib.hid (show PP.statement E (max m3 m8 + 1) σ = some (σ8, .node 43 val [] [.node k3 num3 nm3 kids3, .node k8 num8 nm8 kids8]) by
    have e3 : PP.binary E (max m3 m8) 0 (PP.adv σ) = some (σ3, .node k3 num3 nm3 kids3) := PP.binary_le E (by omega) HR3.out
    have e8 : PP.block E (max m3 m8) σ6 = some (σ8, .node k8 num8 nm8 kids8) := PP.block_le E (by omega) hr8
    generalize max m3 m8 = M at *
    rw [PP.statement]; simp only [S0.out, S1.out, S2.out, Bool.false_eq_true, if_false, if_true]; rw [e3, Option.bind_some]; simp only []; rw [HV.out]; simp only []; rw [e8]; rfl)
  have hnn : σ.next ≤ σ8.next := by have : σ6.next ≤ σ8.next := hn8; omega
  have HQ := Lib.hid (fun v0 v1 v2 v3 => ((I8.set1 3 (.slice (some ⟨w8.heap.size, 0, none⟩) 2 2)).st2 v0 v1 v2 v3).kids2 (k := k3) (num := num3) (nm := nm3) (A := A3) (c := c3) (kids := kids3) (by simp) (k' := k8) (num' := num8) (nm' := nm8) (A' := A8) (c' := c8) (kids' := kids8) (by simp) (n := w8.heap.size) (by simp))
  clear I8 hr8 hn8 HB7 HB7d HI7 HV HR3 x0 x1 x2 x3
  clear HHS
  go_wp2_with fail
  refine bodyPost_ret (node_result rfl rfl (HQ.out _ _ _ _).b2) rfl ?_
  exact (HQ.out _ _ _ _).done (A := some ⟨w8.heap.size, 0, none⟩) (kids := [.node k3 num3 nm3 kids3, .node k8 num8 nm8 kids8]) (k := 43) (num := val) (nm := []) (c := 2) (by simp) ⟨_, HFIN.out⟩ hnn
theorem stmt_in (w : World) (hg : Gx w b X) (h : PS w b X E σ) (HS : ∀ σ', σ.next < σ'.next → StmtOk b X E σ') (s0 : PP.sees E σ [105, 102] = false) (s1 : PP.sees E σ [102, 111, 114] = false) (s2 : PP.sees E σ [119, 104, 105, 108, 101] = false) (s3 : PP.sees E σ [105, 110] = true) :
    Calls Tryd.prog 129 #[.pointer (some ⟨b, 0, none⟩)] w (TreeEnd b X E σ w fun σ' t => ∃ n, PP.statement E n σ = some (σ', t)) := by
  have hbl := h.lt
  have hlen := h.len
  have hpn := h.next
  have I0 := ((Inv.start (Z := NoZ) h hg (fun h => h)).alloc #[.int .u8 0, .int .i64 0, .string ⟨#[]⟩, .slice none 0 0] 24 rfl).alloc #[.int .u8 0, .int .i64 0, .string ⟨#[]⟩, .slice none 0 0] 24 (n := w.heap.size + 1) (by simp)
  have HI0 := Lib.hid I0
  have HHS := Lib.hid HS
  have S0 := Lib.hid s0
  have S1 := Lib.hid s1
  have S2 := Lib.hid s2
  have S3 := Lib.hid s3
  clear I0 h hg HS s0 s1 s2 s3
  go_enter Tryd.func129, Tryd.ntmps129
  go_wp2_with fail
  refine (sees_b ⟨#[105, 102]⟩ S0.out HI0.out).mono ?_
  rintro e v0 ⟨rfl, J0⟩
  go_wp2_with fail
  refine (sees_b ⟨#[102, 111, 114]⟩ S1.out J0).mono ?_
  rintro e v1 ⟨rfl, J1⟩
  go_wp2_with fail
  refine (sees_b ⟨#[119, 104, 105, 108, 101]⟩ S2.out J1).mono ?_
  rintro e v2 ⟨rfl, J2⟩
  go_wp2_with fail
  refine (sees_b ⟨#[105, 110]⟩ S3.out J2).mono ?_
  rintro e v3 ⟨rfl, J3⟩
  have hlt := (PP.sees_err E S3.out).2
  have herr := (PP.sees_err E S3.out).1
  have cb := J3.ps.cells.2.1
  have fb := J3.ps.frozen 1
  have HA := Lib.hid (J3.adv hlt)
  clear J0 J1 J2 J3 herr
  go_wp2_with fail
  refine (tree_inv HA.out (place_all _ _ HA.out.gx HA.out.ps)).mono ?_
  rintro e w3 ⟨k3, num3, nm3, A3, c3, kids3, σ3, rfl, I3, ⟨m3, hr3⟩, hn3⟩
  have l3 : σ.next + 1 ≤ σ3.next := hn3
  have HT := Lib.hid (transfer_inv 44 I3 k3 num3 nm3 A3 c3 kids3 (by simp))
  have HFIN := Lib.hid (show PP.statement E (m3 + 1) σ = some (PP.transfer E 44 (.node k3 num3 nm3 kids3) σ3) by rw [PP.statement]; simp only [S0.out, S1.out, S2.out, S3.out, Bool.false_eq_true, if_false, if_true]; rw [hr3]; rfl)
  have hnn : σ.next ≤ (PP.transfer E 44 (.node k3 num3 nm3 kids3) σ3).1.next := by have := (PP.le_transfer E 44 (.node k3 num3 nm3 kids3) σ3).1; omega
  clear I3 HA cb fb hr3 hn3
  go_wp2_with fail
  refine HT.out.mono ?_
  rintro e w5 ⟨A5, c5, rfl, I5⟩
  obtain ⟨⟨n0, n1, n2, n3⟩, g0, g1, g2, g3⟩ := I5.b0.four
  obtain ⟨⟨r0, r1, r2, r3⟩, q0, q1, q2, q3⟩ := I5.b1.four
  have HQ := Lib.hid (fun v0 v1 v2 v3 => (I5.st0 (.int .u8 44) (.int .i64 (PP.numP E (PP.require E σ3 [44]) 0 7).2) (.string ⟨#[]⟩) (.slice A5 1 c5)).st1 v0 v1 v2 v3)
  clear HT I5
  clear HHS
  go_wp2_with fail
  refine bodyPost_ret (node_result rfl rfl (HQ.out _ _ _ _).b1) rfl ?_
  exact (HQ.out _ _ _ _).done (A := A5) (kids := [.node k3 num3 nm3 kids3]) (k := 44) (num := (PP.numP E (PP.require E σ3 [44]) 0 7).2) (nm := []) (c := c5) (by simp) ⟨_, HFIN.out⟩ hnn
theorem stmt_out (w : World) (hg : Gx w b X) (h : PS w b X E σ) (HS : ∀ σ', σ.next < σ'.next → StmtOk b X E σ') (s0 : PP.sees E σ [105, 102] = false) (s1 : PP.sees E σ [102, 111, 114] = false) (s2 : PP.sees E σ [119, 104, 105, 108, 101] = false) (s3 : PP.sees E σ [105, 110] = false) (s4 : PP.sees E σ [111, 117, 116] = true) :
    Calls Tryd.prog 129 #[.pointer (some ⟨b, 0, none⟩)] w (TreeEnd b X E σ w fun σ' t => ∃ n, PP.statement E n σ = some (σ', t)) := by
  have hbl := h.lt
  have hlen := h.len
  have hpn := h.next
  have I0 := ((Inv.start (Z := NoZ) h hg (fun h => h)).alloc #[.int .u8 0, .int .i64 0, .string ⟨#[]⟩, .slice none 0 0] 24 rfl).alloc #[.int .u8 0, .int .i64 0, .string ⟨#[]⟩, .slice none 0 0] 24 (n := w.heap.size + 1) (by simp)
  have HI0 := Lib.hid I0
  have HHS := Lib.hid HS
  have S0 := Lib.hid s0
  have S1 := Lib.hid s1
  have S2 := Lib.hid s2
  have S3 := Lib.hid s3
  have S4 := Lib.hid s4
  clear I0 h hg HS s0 s1 s2 s3 s4
  go_enter Tryd.func129, Tryd.ntmps129
  go_wp2_with fail
  refine (sees_b ⟨#[105, 102]⟩ S0.out HI0.out).mono ?_
  rintro e v0 ⟨rfl, J0⟩
  go_wp2_with fail
  refine (sees_b ⟨#[102, 111, 114]⟩ S1.out J0).mono ?_
  rintro e v1 ⟨rfl, J1⟩
  go_wp2_with fail
  refine (sees_b ⟨#[119, 104, 105, 108, 101]⟩ S2.out J1).mono ?_
  rintro e v2 ⟨rfl, J2⟩
  go_wp2_with fail
  refine (sees_b ⟨#[105, 110]⟩ S3.out J2).mono ?_
  rintro e v3 ⟨rfl, J3⟩
  go_wp2_with fail
  refine (sees_b ⟨#[111, 117, 116]⟩ S4.out J3).mono ?_
  rintro e v4 ⟨rfl, J4⟩
  have hlt := (PP.sees_err E S4.out).2
  have herr := (PP.sees_err E S4.out).1
  have cb := J4.ps.cells.2.1
  have fb := J4.ps.frozen 1
  have HA := Lib.hid (J4.adv hlt)
  clear J0 J1 J2 J3 J4 herr
  go_wp2_with fail
  refine (tree_inv HA.out (expression_any _ _ HA.out.gx HA.out.ps)).mono ?_
  rintro e w3 ⟨k3, num3, nm3, A3, c3, kids3, σ3, rfl, I3, ⟨m3, hr3⟩, hn3⟩
  have l3 : σ.next + 1 ≤ σ3.next := hn3
  have HT := Lib.hid (transfer_inv 45 I3 k3 num3 nm3 A3 c3 kids3 (by simp))
  have HFIN := Lib.hid (show PP.statement E (m3 + 1) σ = some (PP.transfer E 45 (.node k3 num3 nm3 kids3) σ3) by rw [PP.statement]; simp only [S0.out, S1.out, S2.out, S3.out, S4.out, Bool.false_eq_true, if_false, if_true]; rw [hr3]; rfl)
  have hnn : σ.next ≤ (PP.transfer E 45 (.node k3 num3 nm3 kids3) σ3).1.next := by have := (PP.le_transfer E 45 (.node k3 num3 nm3 kids3) σ3).1; omega
  clear I3 HA cb fb hr3 hn3
  go_wp2_with fail
  refine HT.out.mono ?_
  rintro e w5 ⟨A5, c5, rfl, I5⟩
  obtain ⟨⟨n0, n1, n2, n3⟩, g0, g1, g2, g3⟩ := I5.b0.four
  obtain ⟨⟨r0, r1, r2, r3⟩, q0, q1, q2, q3⟩ := I5.b1.four
  have HQ := Lib.hid (fun v0 v1 v2 v3 => (I5.st0 (.int .u8 45) (.int .i64 (PP.numP E (PP.require E σ3 [44]) 0 7).2) (.string ⟨#[]⟩) (.slice A5 1 c5)).st1 v0 v1 v2 v3)
  clear HT I5
  clear HHS
  go_wp2_with fail
  refine bodyPost_ret (node_result rfl rfl (HQ.out _ _ _ _).b1) rfl ?_
  exact (HQ.out _ _ _ _).done (A := A5) (kids := [.node k3 num3 nm3 kids3]) (k := 45) (num := (PP.numP E (PP.require E σ3 [44]) 0 7).2) (nm := []) (c := c5) (by simp) ⟨_, HFIN.out⟩ hnn
theorem stmt_assign (w : World) (hg : Gx w b X) (h : PS w b X E σ) (HS : ∀ σ', σ.next < σ'.next → StmtOk b X E σ') (s0 : PP.sees E σ [105, 102] = false) (s1 : PP.sees E σ [102, 111, 114] = false) (s2 : PP.sees E σ [119, 104, 105, 108, 101] = false) (s3 : PP.sees E σ [105, 110] = false) (s4 : PP.sees E σ [111, 117, 116] = false) (s5 : PP.sees E σ [108, 111, 99, 107] = false) :
    Calls Tryd.prog 129 #[.pointer (some ⟨b, 0, none⟩)] w (TreeEnd b X E σ w fun σ' t => ∃ n, PP.statement E n σ = some (σ', t)) := by
  have hbl := h.lt
  have hlen := h.len
  have hpn := h.next
  have I0 := ((Inv.start (Z := NoZ) h hg (fun h => h)).alloc #[.int .u8 0, .int .i64 0, .string ⟨#[]⟩, .slice none 0 0] 24 rfl).alloc #[.int .u8 0, .int .i64 0, .string ⟨#[]⟩, .slice none 0 0] 24 (n := w.heap.size + 1) (by simp)
  have HI0 := Lib.hid I0
  have HHS := Lib.hid HS
  have S0 := Lib.hid s0
  have S1 := Lib.hid s1
  have S2 := Lib.hid s2
  have S3 := Lib.hid s3
  have S4 := Lib.hid s4
  have S5 := Lib.hid s5
  clear I0 h hg HS s0 s1 s2 s3 s4 s5
  go_enter Tryd.func129, Tryd.ntmps129
  go_wp2_with fail
  refine (sees_b ⟨#[105, 102]⟩ S0.out HI0.out).mono ?_
  rintro e v0 ⟨rfl, J0⟩
  go_wp2_with fail
  refine (sees_b ⟨#[102, 111, 114]⟩ S1.out J0).mono ?_
  rintro e v1 ⟨rfl, J1⟩
  go_wp2_with fail
  refine (sees_b ⟨#[119, 104, 105, 108, 101]⟩ S2.out J1).mono ?_
  rintro e v2 ⟨rfl, J2⟩
  go_wp2_with fail
  refine (sees_b ⟨#[105, 110]⟩ S3.out J2).mono ?_
  rintro e v3 ⟨rfl, J3⟩
  go_wp2_with fail
  refine (sees_b ⟨#[111, 117, 116]⟩ S4.out J3).mono ?_
  rintro e v4 ⟨rfl, J4⟩
  go_wp2_with fail
  refine (sees_b ⟨#[108, 111, 99, 107]⟩ S5.out J4).mono ?_
  rintro e v5 ⟨rfl, J5⟩
  have HA := Lib.hid J5
  clear J0 J1 J2 J3 J4 J5
  go_wp2_with fail
  refine (tree_inv HA.out (place_all _ _ HA.out.gx HA.out.ps)).mono ?_
  rintro e w3 ⟨k3, num3, nm3, A3, c3, kids3, σ3, rfl, I3, ⟨m3, hr3⟩, hn3⟩
  have HR3 := Lib.hid hr3
  have l3 : σ.next ≤ σ3.next := hn3
  have HI4 := Lib.hid (I3.alloc #[.int .u8 (k3 : Int), .int .i64 num3, .string ⟨nm3.toArray⟩, .slice A3 kids3.length c3] 24 rfl)
  clear I3 HA hr3 hn3
  go_wp2_with fail
  refine (require_inv ⟨#[61]⟩ HI4.out).mono ?_
  rintro e w5 ⟨rfl, I5⟩
  have HI5 := Lib.hid I5
  clear I5 HI4
  obtain ⟨⟨x0, x1, x2, x3⟩, _, _, _, _⟩ := HI5.out.b0.four
  have HB7 := Lib.hid (tree_inv HI5.out (expression_any _ _ HI5.out.gx HI5.out.ps))
  have HB7d := Lib.hid (tree_inv HI5.out.drew (expression_any _ _ HI5.out.drew.gx HI5.out.drew.ps))
  go_wp2_with fail
  go_region_held3 (fun W => W.cell? ⟨w3.heap.size, 0, none⟩ = some (.int .u8 (k3 : Int)) ∧ W.cell? ⟨w3.heap.size, 1, none⟩ = some (.int .i64 num3) ∧ W.cell? ⟨w3.heap.size, 2, none⟩ = some (.string ⟨nm3.toArray⟩) ∧ W.cell? ⟨w3.heap.size, 3, none⟩ = some (.slice A3 kids3.length c3))
   (with_reducible first | exact HI5.out.b0.four.1 | exact HI5.out.drew.b0.four.1 | exact I8.b0.four.1 | exact (I8.more _).b0.four.1 | exact ((I8.st1 _ _ _ _).more _).b0.four.1)
   (first | (go_at_call 61; (first | (with_reducible refine HB7.out.mono ?_) | (with_reducible refine HB7d.out.mono ?_)); rintro e w8 ⟨k8, num8, nm8, A8, c8, kids8, σ8, rfl, I8, ⟨m8, hr8⟩, hn8⟩; obtain ⟨⟨z0, z1, z2, z3⟩, q0, q1, q2, q3⟩ := I8.b1.four; have hNlt := I8.b1.lt))
  have HFIN := Lib.hid (show PP.statement E (max m3 m8 + 1) σ = some (PP.require E σ8 [59], .node 40 0 [] [.node k3 num3 nm3 kids3, .node k8 num8 nm8 kids8]) by
    have e3 : PP.place E (max m3 m8) σ = some (σ3, .node k3 num3 nm3 kids3) := PP.place_le E (by omega) HR3.out
    have e8 : PP.binary E (max m3 m8) 0 (PP.require E σ3 [61]) = some (σ8, .node k8 num8 nm8 kids8) := PP.binary_le E (by omega) hr8
    generalize max m3 m8 = M at *
    rw [PP.statement]; simp only [S0.out, S1.out, S2.out, S3.out, S4.out, S5.out, Bool.false_eq_true, if_false]; rw [e3, Option.bind_some]; simp only []; rw [e8]; rfl)
  have hnn : σ.next ≤ (PP.require E σ8 [59]).next := by have h1 : (PP.require E σ3 [61]).next ≤ σ8.next := hn8; have h2 := (PP.le_require E σ3 [61]).1; have h3 := (PP.le_require E σ8 [59]).1; omega
  have HQ6 := Lib.hid ((I8.st1 (.int .u8 40) (.int .i64 0) (.string ⟨#[]⟩) (.slice (some ⟨w8.heap.size, 0, none⟩) 2 2)).kids2 (k := k3) (num := num3) (nm := nm3) (A := A3) (c := c3) (kids := kids3) (by simp) (k' := k8) (num' := num8) (nm' := nm8) (A' := A8) (c' := c8) (kids' := kids8) (by simp) (n := w8.heap.size) (by simp))
  clear I8 hr8 hn8 HB7 HB7d HI5 HR3 x0 x1 x2 x3
  go_wp2_with fail
  refine (require_inv ⟨#[59]⟩ HQ6.out).mono ?_
  rintro e w9 ⟨rfl, I9⟩
  obtain ⟨⟨a0, a1, a2, a3⟩, _, _, _, _⟩ := I9.b1.four
  obtain ⟨⟨r0, r1, r2, r3⟩, p0, p1, p2, p3⟩ := I9.b2.four
  have HQ := Lib.hid (fun v0 v1 v2 v3 => I9.st2 v0 v1 v2 v3)
  clear I9 HQ6
  clear HHS
  go_wp2_with fail
  refine bodyPost_ret (node_result rfl rfl (HQ.out _ _ _ _).b2) rfl ?_
  exact (HQ.out _ _ _ _).done (A := some ⟨w8.heap.size, 0, none⟩) (kids := [.node k3 num3 nm3 kids3, .node k8 num8 nm8 kids8]) (k := 40) (num := 0) (nm := []) (c := 2) (by simp) ⟨_, HFIN.out⟩ hnn
end

section
variable {b : Nat} {X : Loc} {E : PP.Env}
theorem statement_of {σ : PP.St} (w : World) (hg : Gx w b X) (h : PS w b X E σ) (HS : ∀ σ', σ.next < σ'.next → StmtOk b X E σ') :
    Calls Tryd.prog 129 #[.pointer (some ⟨b, 0, none⟩)] w (TreeEnd b X E σ w fun σ' t => ∃ n, PP.statement E n σ = some (σ', t)) := by
  cases s0 : PP.sees E σ [105, 102] with
  | true => exact stmt_if w hg h HS s0
  | false =>
  cases s1 : PP.sees E σ [102, 111, 114] with
  | true => exact stmt_for w hg h HS s0 s1
  | false =>
  cases s2 : PP.sees E σ [119, 104, 105, 108, 101] with
  | true => exact stmt_while w hg h HS s0 s1 s2
  | false =>
  cases s3 : PP.sees E σ [105, 110] with
  | true => exact stmt_in w hg h HS s0 s1 s2 s3
  | false =>
  cases s4 : PP.sees E σ [111, 117, 116] with
  | true => exact stmt_out w hg h HS s0 s1 s2 s3 s4
  | false =>
  cases s5 : PP.sees E σ [108, 111, 99, 107] with
  | true => exact stmt_lock w hg h HS s0 s1 s2 s3 s4 s5
  | false =>
  exact stmt_assign w hg h HS s0 s1 s2 s3 s4 s5
theorem stmt_upto (d : Nat) : ∀ σ : PP.St, E.ts.length - σ.next ≤ d → StmtOk b X E σ := by
  induction d using Nat.strongRecOn with
  | ind d ih =>
    intro σ hd W hg h
    refine statement_of W hg h (fun σ' hn W' hg' h' => ?_)
    have := h'.next
    exact ih (E.ts.length - σ'.next) (by omega) σ' (Nat.le_refl _) W' hg' h'
theorem statement_any (σ : PP.St) : StmtOk b X E σ := stmt_upto _ σ (Nat.le_refl _)
theorem statements_any {σ : PP.St} (w : World) (hg : Gx w b X) (h : PS w b X E σ) :
    Calls Tryd.prog 108 #[.pointer (some ⟨b, 0, none⟩)] w (SeqEnd b X E σ false w) := statements_of w hg h (fun σ' _ => statement_any σ')
end
end Go.Proofs.YtaaaicpjlaeiiaaDoor
