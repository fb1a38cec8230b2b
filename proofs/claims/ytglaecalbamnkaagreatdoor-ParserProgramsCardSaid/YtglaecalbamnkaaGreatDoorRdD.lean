/- The contract of the reader's expr, and of its unary and place. -/
import Derived.Test.YtglaecalbamnkaaGreatDoorRdC
namespace Go.Proofs.YtglaecalbamnkaaGreatDoor
open Go.RowKit Go.Maps
open PP (Tree)
namespace PP
theorem seen_op (E : Env) (σ : St) : opOf (seen E σ).2.1 = if more E σ then opOf (cur E σ).text else none := by
  unfold seen
  cases more E σ with
  | true => rfl
  | false => exact opOf_empty
theorem loop_stop {E : Env} {σ : St} (h : opOf (seen E σ).2.1 = none) (n lvl : Nat) (t : Tree) : binLoop E (n + 1) lvl σ t = some (σ, t) := by
  rw [seen_op] at h
  rw [binLoop]
  cases hm : more E σ with
  | true => rw [hm, if_pos rfl] at h; rw [if_pos rfl, h]
  | false => rw [if_neg (by decide)]
theorem loop_err {E : Env} {σ : St} (h : σ.err ≠ 0) (n lvl : Nat) (t : Tree) : binLoop E (n + 1) lvl σ t = some (σ, t) := by
  rw [binLoop, if_neg]
  simp [more, h]
theorem seen_more {E : Env} {σ : St} {op : Nat} (h : opOf (seen E σ).2.1 = some op) : more E σ = true ∧ opOf (cur E σ).text = some op := by
  rw [seen_op] at h
  cases hm : more E σ with
  | true => rw [hm, if_pos rfl] at h; exact ⟨rfl, h⟩
  | false => rw [hm, if_neg (by decide)] at h; cases h
theorem loop_low {E : Env} {σ : St} {op : Nat} (h : opOf (seen E σ).2.1 = some op) {lvl : Nat} (hl : level op < lvl) (n : Nat) (t : Tree) : binLoop E (n + 1) lvl σ t = some (σ, t) := by
  obtain ⟨h1, h2⟩ := seen_more h
  rw [binLoop, if_pos h1, h2]
  simp only [hl, if_true]
theorem loop_go {E : Env} {σ : St} {op : Nat} (h : opOf (seen E σ).2.1 = some op) {lvl : Nat} (hl : ¬ level op < lvl) {n : Nat} {t : Tree} {r r' : St × Tree} (hb : binary E n (level op + 1) (adv σ) = some r) (hr : binLoop E n lvl r.1 (.node op 0 [] [t, r.2]) = some r') : binLoop E (n + 1) lvl σ t = some r' := by
  obtain ⟨h1, h2⟩ := seen_more h
  rw [binLoop, if_pos h1, h2]
  simp only [hl, if_false, hb, Option.bind_some, hr]
end PP
/-- How much the reader has still to read. -/
def rleft (b : Nat) (w : World) : Nat := match w.cell? ⟨b, 2, none⟩, w.cell? ⟨b, 0, none⟩ with
  | some (.int _ e), some (.slice _ n _) => if e = 0 then n + 1 else 0
  | _, _ => 0
theorem rleft_of {w : World} {b : Nat} {Y : RLoc} {E : PP.Env} {σ : PP.St} (h : RS w b Y E σ) : rleft b w = if σ.err = 0 then E.ts.length - σ.next + 1 else 0 := by
  obtain ⟨k, c, pe, A, hs⟩ := h.st
  obtain ⟨c0, _, c2, _⟩ := hs.cells
  unfold rleft
  rw [c0, c2]
  by_cases he : σ.err = 0
  · have hk := hs.here he
    subst hk
    simp [he]
  · simp [he]
theorem RInv.sub {w0 W : World} {Z : Nat → Prop} {b : Nat} {Y : RLoc} {E : PP.Env} {σ : PP.St} {bl : List OwnB} {ks ks' : List (Option Addr × List Tree)} (h : RInv w0 Z b Y E σ bl ks W) (hs : ∀ x ∈ ks', x ∈ ks) : RInv w0 Z b Y E σ bl ks' W :=
  ⟨h.ps, h.ps0, h.fr, h.zb, h.own, h.nd, fun x hx => h.ks x (hs x hx)⟩
/-- Where the loop of expr stands. -/
def ExpRel (b : Nat) (Y : RLoc) (E : PP.Env) (σ : PP.St) (lvl : Nat) (w : World) (L : Nat) (wr : World) : Prop :=
  ∃ σ' k num nm A c kids tP, RInv w NoZ b Y E σ' [(L, 36, #[.int .u8 ((k : Nat) : Int), .int .i64 num, .string ⟨(nm : List UInt8).toArray⟩, .slice A (kids : List Tree).length c]), (w.heap.size, 36, #[.int .u8 0, .int .i64 0, .string ⟨#[]⟩, .slice none 0 0])] [(A, kids)] wr ∧
    (σ'.err = 0 → Tree.node k num nm kids = tP) ∧ σ.next ≤ σ'.next ∧ ∀ m r, PP.binLoop E m lvl σ' tP = some r → ∃ m', PP.binary E m' lvl σ = some r
section
variable {b : Nat} {Y : RLoc} {E : PP.Env} {σ : PP.St}
set_option maxHeartbeats 2000000
set_option maxRecDepth 100000
attribute [local go_sem ↓] Go.wp_at_zero Go.wp_at_succ
theorem rexpr_of (HE : ∀ σ', σ.next < σ'.next → σ'.next ≤ E.ts.length → ExprOk b Y E σ') (HU : UnaryOk b Y E σ) : ExprOk b Y E σ := by
  intro w lvl l hlev hl12 h
  have hfd := field_tok
  have I0 := (RInv.start (Z := NoZ) h (fun h => h)).alloc #[.int .u8 0, .int .i64 0, .string ⟨#[]⟩, .slice none 0 0] 36 rfl
  have HUX := Lib.hid (rtree_inv I0 (HU _ I0.ps))
  have HHE := Lib.hid HE
  have HLEV := Lib.hid hlev
  clear I0 h HE HU hlev
  go_enter Tryz.func95, Tryz.ntmps95
  go_wp2_with fail
  refine HUX.out.mono ?_
  rintro e w1 ⟨k1, num1, nm1, A1, c1, kids1, σ1, rfl, I1, n1, t1, hr1, ht1⟩
  have hstart : ExpRel b Y E σ lvl w w1.heap.size (w1.alloc (.cells #[.int .u8 (k1 : Int), .int .i64 num1, .string ⟨nm1.toArray⟩, .slice A1 kids1.length c1] 36)) :=
    ⟨σ1, k1, num1, nm1, A1, c1, kids1, t1, (I1.alloc _ _ rfl).sub (by simp), ht1, ((PP.expr_le E n1).1 _ _ hr1).1, fun m r hr => ⟨max n1 m + 1, by
      rw [PP.binary, PP.unary_le E (Nat.le_max_left _ _) hr1]
      exact PP.binLoop_le E (Nat.le_max_right _ _) hr⟩⟩
  have HST := Lib.hid hstart
  clear hstart I1 hr1 ht1 HUX
  go_wp2_with fail
  generalize w1.alloc (.cells #[.int .u8 (k1 : Int), .int .i64 num1, .string ⟨nm1.toArray⟩, .slice A1 kids1.length c1] 36) = ws at *
  generalize w1.heap.size = L at *
  go_loopw [] (fun wr => ExpRel b Y E σ lvl w L wr) (fun wr => rleft b wr)
  case atStart => exact HST.out
  case round =>
    obtain ⟨σ', k, num, nm, A, c, kids, tP, I, hT, hn, hgo⟩ := hrel
    have HGO := Lib.hid hgo
    have HT := Lib.hid hT
    clear hgo HST hT
    obtain ⟨kk, cc, pe, AA, hs⟩ := I.ps.st
    obtain ⟨_, _, x2, _⟩ := hs.cells
    have hml := rleft_of I.ps
    have hnx := I.ps.next
    clear hs
    by_cases he : σ'.err = 0
    · have e1 : ((σ'.err : Int) == 0) = true := by simp [he]
      rw [if_pos he] at hml
      have hnx' := hnx he
      have hsee := rsee_inv I
      unfold seenV at hsee
      have htl := seen_len I.ps
      have HSEE := Lib.hid hsee
      have HML := Lib.hid hml
      clear hsee hml hnx
      cases ho : PP.opOf (seen E σ').2.1 with
      | none =>
        have hfin := HGO.out 1 (σ', tP) (PP.loop_stop ho 0 lvl tP)
        have HFIN := Lib.hid hfin
        have HBI := Lib.hid (fun W => rbin_any ⟨(seen E σ').2.1.toArray⟩ W)
        have HO := Lib.hid ho
        generalize (seen E σ').2.1 = tx at *
        generalize ((seen E σ').1 : Int) = kd at *
        generalize ((seen E σ').2.2 : Int) = ps at *
        clear hfin ho I he htl
        go_wp2_with fail
        refine HSEE.out.mono ?_
        rintro e w2 ⟨rfl, I2⟩
        have HI2 := Lib.hid I2
        clear I2 HSEE x2
        go_wp2_with fail
        refine (HBI.out _).mono ?_
        rintro e w3 ⟨rfl, hb3⟩
        rw [HO.out]
        have I3 := HI2.out.call (HI2.out.ps.below hb3) (Fr.of_below hb3)
        obtain ⟨⟨n0, n1, n2, n3⟩, _, _, _, _⟩ := I3.b0.four
        obtain ⟨⟨r0, r1, r2, r3⟩, q0, q1, q2, q3⟩ := I3.b1.four
        have HQ := Lib.hid (fun v0 v1 v2 v3 => I3.st1 v0 v1 v2 v3)
        clear hb3 I3 HI2 HBI
        go_wp2_with fail
        refine bodyPost_ret (node_result rfl rfl (HQ.out _ _ _ _).b1) rfl ?_
        exact (HQ.out _ _ _ _).done (k := k) (num := num) (nm := nm) (c := c) (A := A) (kids := kids) (by simp) (by obtain ⟨m', hm'⟩ := HFIN.out; exact ⟨m', tP, hm', HT.out⟩)
      | some op =>
        obtain ⟨ho1, ho2⟩ := PP.opOf_rng (PP.seen_more ho).2
        have hm := (PP.seen_more ho).1
        have HBI := Lib.hid (fun W => rbin_any ⟨(seen E σ').2.1.toArray⟩ W)
        have HO := Lib.hid (show PP.opOf (⟨(seen E σ').2.1.toArray⟩ : ByteArray).data.toList = some op from ho)
        have hlsm := PP.level_small ho1 ho2
        have hlv := HLEV.out op ho1 ho2
        have g1 : ((op : Int) == 0) = false := beq_eq_false_iff_ne.2 (by omega)
        have g2 : IntKind.u8.wrap ((op : Int) - 4) = (op : Int) - 4 := wrap_u8 (by omega) (by omega)
        have g3 : (0 : Int) ≤ (op : Int) - 4 := by omega
        have g4 : (op : Int) - 4 < 20 := by omega
        have g5 : ((op : Int) - 4).toNat = op - 4 := by omega
        by_cases hlow : PP.level op < l
        · have hfin := HGO.out 1 (σ', tP) (PP.loop_low ho (hlv.2 hlow) 0 tP)
          have HFIN := Lib.hid hfin
          have g6 : decide ((PP.level op : Int) < (l : Int)) = true := by simpa using hlow
          have g7 : decide (PP.level op < l) = true := by simpa using hlow
          clear hfin hlv
          generalize (seen E σ').2.1 = tx at *
          generalize ((seen E σ').1 : Int) = kd at *
          generalize ((seen E σ').2.2 : Int) = ps at *
          clear ho I he htl hm
          go_wp2_with fail
          refine HSEE.out.mono ?_
          rintro e w2 ⟨rfl, I2⟩
          have HI2 := Lib.hid I2
          clear I2 HSEE x2
          go_wp2_with fail
          refine (HBI.out _).mono ?_
          rintro e w3 ⟨rfl, hb3⟩
          rw [HO.out, Option.getD_some]
          have I3 := HI2.out.call (HI2.out.ps.below hb3) (Fr.of_below hb3)
          have HI3 := Lib.hid I3
          clear hb3 I3 HI2 HBI
          go_wp2_with fail
          refine (levels_ex _).mono ?_
          rintro e w4 ⟨g4, rfl, hg4, hb4⟩
          have lv4 := (hg4.cell (op - 4)).trans (levCells_at (by omega) (by omega))
          have I4 := HI3.out.call (HI3.out.ps.below hb4) (Fr.of_below hb4)
          obtain ⟨⟨n0, n1, n2, n3⟩, _, _, _, _⟩ := I4.b0.four
          obtain ⟨⟨r0, r1, r2, r3⟩, q0, q1, q2, q3⟩ := I4.b1.four
          have HQ := Lib.hid (fun v0 v1 v2 v3 => I4.st1 v0 v1 v2 v3)
          clear hb4 I4 HI3 hg4
          go_wp2_with fail
          refine bodyPost_ret (node_result rfl rfl (HQ.out _ _ _ _).b1) rfl ?_
          exact (HQ.out _ _ _ _).done (k := k) (num := num) (nm := nm) (c := c) (A := A) (kids := kids) (by simp) (by obtain ⟨m', hm'⟩ := HFIN.out; exact ⟨m', tP, hm', HT.out⟩)
        · have HLOW := Lib.hid (show ¬ PP.level op < lvl from fun h => hlow (hlv.1 h))
          have HSO := Lib.hid ho
          have HMO := Lib.hid hm
          have HE0 := Lib.hid he
          have g6 : decide ((PP.level op : Int) < (l : Int)) = false := by simpa using hlow
          have g7 : decide (PP.level op < l) = false := by simpa using hlow
          clear hlv hlow
          have HLG := Lib.hid (fun (n : Nat) (r r' : PP.St × Tree) hb hr => HGO.out (n + 1) r' (PP.loop_go HSO.out HLOW.out (n := n) (t := tP) (r := r) (r' := r') hb hr))
          clear HSO
          generalize (seen E σ').2.1 = tx at *
          generalize ((seen E σ').1 : Int) = kd at *
          generalize ((seen E σ').2.2 : Int) = ps at *
          clear ho I he htl hm
          go_wp2_with fail
          refine HSEE.out.mono ?_
          rintro e w2 ⟨rfl, I2⟩
          have HI2 := Lib.hid I2
          clear I2 HSEE x2
          go_wp2_with fail
          refine (HBI.out _).mono ?_
          rintro e w3 ⟨rfl, hb3⟩
          rw [HO.out, Option.getD_some]
          have I3 := HI2.out.call (HI2.out.ps.below hb3) (Fr.of_below hb3)
          have HI3 := Lib.hid I3
          clear hb3 I3 HI2 HBI
          go_wp2_with fail
          refine (levels_ex _).mono ?_
          rintro e w4 ⟨g4, rfl, hg4, hb4⟩
          have lv4 := (hg4.cell (op - 4)).trans (levCells_at (by omega) (by omega))
          have I4 := HI3.out.call (HI3.out.ps.below hb4) (Fr.of_below hb4)
          have HSK := Lib.hid (rskip_inv HMO.out I4)
          clear hb4 I4 HI3 hg4
          go_wp2_with fail
          refine HSK.out.mono ?_
          rintro e w5 ⟨rfl, I5⟩
          have HI5 := Lib.hid I5
          clear I5 HSK lv4
          go_wp2_with fail
          refine (levels_ex _).mono ?_
          rintro e w6 ⟨g6', rfl, hg6, hb6⟩
          have lv6 := (hg6.cell (op - 4)).trans (levCells_at (by omega) (by omega))
          have I6 := HI5.out.call (HI5.out.ps.below hb6) (Fr.of_below hb6)
          have HEX := Lib.hid (rtree_inv I6 (show Calls Tryz.prog 95 #[.pointer (some ⟨b, 0, none⟩), .int .i64 ((PP.level op : Int) + 1)] w6 (RTreeEnd b Y E w6 (Alike fun n => PP.binary E n (PP.level op + 1) (PP.adv σ'))) from HHE.out (PP.adv σ') (by simp only [PP.adv]; omega) (by have := (PP.more_err E HMO.out).2; simp only [PP.adv]; omega) w6 (PP.level op + 1) (PP.level op + 1) (PP.lev_refl _) (by omega) I6.ps))
          clear I6 hb6 hg6 HI5
          go_wp2_with fail
          refine HEX.out.mono ?_
          rintro e w7 ⟨k3, num3, nm3, A3, c3, kids3, σ4, rfl, I7, n4, t4, hr4, ht4⟩
          have hL7 := I7.b0.lt
          have I8 := ((I7.st0 (.int .u8 (op : Int)) (.int .i64 0) (.string ⟨#[]⟩) (.slice (some ⟨w7.heap.size + 1, 0, none⟩) 2 2)).more (.cells #[.int .u8 (k3 : Int), .int .i64 num3, .string ⟨nm3.toArray⟩, .slice A3 kids3.length c3] 36)).kids2 (k := k) (num := num) (nm := nm) (c := c) (A := A) (kids := kids) (by simp) (k' := k3) (num' := num3) (nm' := nm3) (c' := c3) (A' := A3) (kids' := kids3) (by simp) (n := w7.heap.size + 1) (by simp [World.setCell])
          have hle4 := (PP.expr_le E n4).2.2.2.1 _ _ _ hr4
          have hREL : ExpRel b Y E σ lvl w L _ := ⟨σ4, op, 0, [], some ⟨w7.heap.size + 1, 0, none⟩, 2, [.node k num nm kids, .node k3 num3 nm3 kids3], .node op 0 [] [tP, t4], I8.sub (by simp), fun h4 => by rw [← HT.out HE0.out, ← ht4 h4], by have := hle4.1; simp only [PP.adv] at this; omega, fun m r hr => HLG.out (max n4 m) (σ4, t4) r (PP.binary_le E (Nat.le_max_left _ _) hr4) (PP.binLoop_le E (Nat.le_max_right _ _) hr)⟩
          have hMEAS := rleft_of I8.ps
          have hnx8 := I8.ps.next
          have hlt4 : σ4.err = 0 → E.ts.length - σ4.next + 1 < E.ts.length - σ'.next + 1 := fun h4 => by
            have h5 := hle4.1
            have h6 := hnx8 h4
            simp only [PP.adv] at h5
            omega
          obtain ⟨⟨m0, m1, m2, m3⟩, q0, q1, q2, q3⟩ := I7.b0.four
          have HREL := Lib.hid hREL
          have HMEAS := Lib.hid hMEAS
          have HLT4 := Lib.hid hlt4
          clear I7 I8 HEX hr4 ht4 lv6 hREL hMEAS hlt4 hnx8 hle4
          go_wp2_with fail
          go_roundw
          case rel => exact HREL.out
          case measure =>
            rw [HMEAS.out, HML.out]
            split
            · rename_i h4; exact HLT4.out h4
            · omega
    · have e1 : ((σ'.err : Int) == 0) = false := beq_eq_false_iff_ne.2 (by omega)
      have hfin := HGO.out 1 (σ', tP) (PP.loop_err he 0 lvl tP)
      have HFIN := Lib.hid hfin
      obtain ⟨⟨n0, n1, n2, n3⟩, _, _, _, _⟩ := I.b0.four
      obtain ⟨⟨r0, r1, r2, r3⟩, q0, q1, q2, q3⟩ := I.b1.four
      have HQ := Lib.hid (fun v0 v1 v2 v3 => I.st1 v0 v1 v2 v3)
      clear I hfin hml hnx he
      go_wp2_with fail
      refine bodyPost_ret (node_result rfl rfl (HQ.out _ _ _ _).b1) rfl ?_
      exact (HQ.out _ _ _ _).done (k := k) (num := num) (nm := nm) (c := c) (A := A) (kids := kids) (by simp) (by obtain ⟨m', hm'⟩ := HFIN.out; exact ⟨m', tP, hm', HT.out⟩)
theorem rexprs_upto : ∀ (d : Nat) (σ : PP.St), E.ts.length - σ.next ≤ d → ExprOk b Y E σ ∧ UnaryOk b Y E σ ∧ PlaceOk b Y E σ
  | d, σ, hd => by
    have HE : ∀ σ', σ.next < σ'.next → σ'.next ≤ E.ts.length → ExprOk b Y E σ' ∧ UnaryOk b Y E σ' ∧ PlaceOk b Y E σ' := fun σ' h1 h2 => by
      cases d with
      | zero => omega
      | succ d => exact rexprs_upto d σ' (by omega)
    have hu := runary_of (fun σ' h1 h2 => (HE σ' h1 h2).1) (fun σ' h1 h2 => (HE σ' h1 h2).2.1)
    exact ⟨rexpr_of (fun σ' h1 h2 => (HE σ' h1 h2).1) hu, hu, rplace_of (fun σ' h1 h2 => (HE σ' h1 h2).1)⟩
theorem rexpr_all (σ : PP.St) : ExprOk b Y E σ := (rexprs_upto _ σ (Nat.le_refl _)).1
theorem rplace_all (σ : PP.St) : PlaceOk b Y E σ := (rexprs_upto _ σ (Nat.le_refl _)).2.2
end
end Go.Proofs.YtglaecalbamnkaaGreatDoor
