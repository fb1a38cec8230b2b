/- The contracts of the reader's stmts and block, from that of its stmt. -/
import Derived.Test.YtglaecalbamnkaaGreatDoorRdD
namespace Go.Proofs.YtglaecalbamnkaaGreatDoor
open Go.RowKit Go.Maps
open PP (Tree)
def StOk (b : Nat) (Y : RLoc) (E : PP.Env) (σ : PP.St) : Prop := ∀ (W : World), RS W b Y E σ →
  Calls Tryz.prog 67 #[.pointer (some ⟨b, 0, none⟩)] W (RTreeEnd b Y E W (Alike fun n => PP.statement E n σ))
def BkOk (b : Nat) (Y : RLoc) (E : PP.Env) (σ : PP.St) : Prop := ∀ (W : World), RS W b Y E σ →
  Calls Tryz.prog 96 #[.pointer (some ⟨b, 0, none⟩)] W (RTreeEnd b Y E W (Alike fun n => PP.block E n σ))
def StsOk (b : Nat) (Y : RLoc) (E : PP.Env) (σ : PP.St) : Prop := ∀ (W : World), RS W b Y E σ →
  Calls Tryz.prog 52 #[.pointer (some ⟨b, 0, none⟩)] W (RTreeEnd b Y E W (Alike fun n => (PP.stmts E n false σ []).map fun r => (r.1, .node 47 0 [] r.2)))
def rcnt (σ : PP.St) (n : Nat) : Prop := n ≤ σ.next + if σ.err = 0 then 0 else 1
/-- Where the loop of stmts stands. -/
def StsRel (b : Nat) (Y : RLoc) (E : PP.Env) (σ : PP.St) (w : World) (N : Nat) (wr : World) : Prop :=
  ∃ σ' v els tsP bs, RowV w.heap.size 36 4 v (els : List NodeE).length (nodesCells els) bs ∧
    RInv w NoZ b Y E σ' ((N, 36, #[.int .u8 47, .int .i64 0, .string ⟨#[]⟩, v]) :: (bs ++ [(w.heap.size, 36, #[.int .u8 0, .int .i64 0, .string ⟨#[]⟩, .slice none 0 0])])) (els.map fun x => (x.A, x.kids)) wr ∧
    (σ'.err = 0 → els.map NodeE.tree = tsP) ∧ σ.next ≤ σ'.next ∧ rcnt σ' els.length ∧ ∀ m r, PP.stmts E m false σ' tsP = some r → ∃ m', PP.stmts E m' false σ [] = some r
theorem RInv.st_last {w0 W : World} {Z : Nat → Prop} {b : Nat} {Y : RLoc} {E : PP.Env} {σ : PP.St} {l1 bl : List OwnB} {ks : List (Option Addr × List Tree)} {g1 g : Nat} {t1 t : TypeId} {c1 : Array Value} {a0 a1 a2 a3 : Value} (h : RInv w0 Z b Y E σ (l1 ++ (g1, t1, c1) :: (g, t, #[a0, a1, a2, a3]) :: bl) ks W) (v0 v1 v2 v3 : Value) :
    RInv w0 Z b Y E σ (l1 ++ (g1, t1, c1) :: (g, t, #[v0, v1, v2, v3]) :: bl) ks ((((W.setCell ⟨g, 0, none⟩ v0).setCell ⟨g, 1, none⟩ v1).setCell ⟨g, 2, none⟩ v2).setCell ⟨g, 3, none⟩ v3) := by
  have e : ∀ c : Array Value, l1 ++ (g1, t1, c1) :: (g, t, c) :: bl = (l1 ++ [(g1, t1, c1)]) ++ (g, t, c) :: bl := fun c => by simp
  rw [e] at h ⊢
  exact RInv.set (RInv.set (RInv.set (RInv.set h 0 v0) 1 v1) 2 v2) 3 v3
section
variable {b : Nat} {Y : RLoc} {E : PP.Env} {σ : PP.St}
set_option maxHeartbeats 2000000
set_option maxRecDepth 100000
attribute [local go_sem ↓] Go.wp_at_zero Go.wp_at_succ
theorem permN {α : Type} (t : α) (v l : List α) : (t :: (v ++ l)).Perm (v ++ (t :: l)) := List.perm_middle.symm
theorem rsts_of (HS : ∀ σ', σ.next ≤ σ'.next → σ'.next ≤ E.ts.length → StOk b Y E σ') : StsOk b Y E σ := by
  intro w h
  have hfd := field_tok
  obtain ⟨i0, hi, hz0, hz1, hz2⟩ := info_parts infoNode
  have HI0 := Lib.hid hi
  have HZ0 := Lib.hid hz0
  have HZ1 := Lib.hid hz1
  have HZ2 := Lib.hid hz2
  have hlen := h.len
  have I1 := ((RInv.start (Z := NoZ) h (fun h => h)).alloc #[.int .u8 0, .int .i64 0, .string ⟨#[]⟩, .slice none 0 0] 36 rfl).alloc #[.int .u8 47, .int .i64 0, .string ⟨#[]⟩, .slice none 0 0] 36 (n := w.heap.size + 1) (by simp)
  have hstart : StsRel b Y E σ w (w.heap.size + 1) _ := ⟨σ, _, [], [], [], RowV.nil _ _ _, I1, fun _ => rfl, Nat.le_refl _, Nat.zero_le _, fun m r hr => ⟨m, hr⟩⟩
  have HST := Lib.hid hstart
  have HHS := Lib.hid HS
  clear hi hz0 hz1 hz2 I1 hstart h HS
  go_enter Tryz.func52, Tryz.ntmps52
  go_wp2_with fail
  generalize ((w.alloc (.cells #[.int .u8 0, .int .i64 0, .string ⟨#[]⟩, .slice none 0 0] 36)).alloc (.cells #[.int .u8 47, .int .i64 0, .string ⟨#[]⟩, .slice none 0 0] 36)) = ws at *
  generalize hN : w.heap.size + 1 = N at *
  have HN := Lib.hid hN
  clear hN
  go_loopw [] (fun wr => StsRel b Y E σ w N wr) (fun wr => rleft b wr)
  case atStart => exact HST.out
  case round =>
    obtain ⟨σ', v, els, tsP, bs, hrv, I, hT, hn, hcnt, hgo⟩ := hrel
    obtain ⟨Av, cv, rfl⟩ := hrv.form
    have HGO := Lib.hid hgo
    have HT := Lib.hid hT
    have HRV := Lib.hid hrv
    have HC := Lib.hid hcnt
    clear hgo HST hT hrv hcnt
    obtain ⟨kk, cc, pe, AA, hs⟩ := I.ps.st
    obtain ⟨x0, _, x2, _⟩ := hs.cells
    have hml := rleft_of I.ps
    have hnx := I.ps.next
    have hsk := hs.here
    have hkle := hs.kle
    clear hs
    have fin : ∀ wx, RInv w NoZ b Y E σ' ((N, 36, #[.int .u8 47, .int .i64 0, .string ⟨#[]⟩, .slice Av els.length cv]) :: (bs ++ [(w.heap.size, 36, #[.int .u8 0, .int .i64 0, .string ⟨#[]⟩, .slice none 0 0])])) (els.map fun x => (x.A, x.kids)) wx → PP.goes E false σ' = false →
        Blk wx w.heap.size 36 #[.int .u8 0, .int .i64 0, .string ⟨#[]⟩, .slice none 0 0] ∧ ∀ v0 v1 v2 v3, v0 = .int .u8 47 → v1 = .int .i64 0 → v2 = .string ⟨#[]⟩ → v3 = .slice Av els.length cv →
          RTreeEnd b Y E w (Alike fun n => (PP.stmts E n false σ []).map fun r => (r.1, .node 47 0 [] r.2)) (.returned (.agg #[v0, v1, v2, v3])) ((((wx.setCell ⟨w.heap.size, 0, none⟩ v0).setCell ⟨w.heap.size, 1, none⟩ v1).setCell ⟨w.heap.size, 2, none⟩ v2).setCell ⟨w.heap.size, 3, none⟩ v3) ∧
          Blk ((((wx.setCell ⟨w.heap.size, 0, none⟩ v0).setCell ⟨w.heap.size, 1, none⟩ v1).setCell ⟨w.heap.size, 2, none⟩ v2).setCell ⟨w.heap.size, 3, none⟩ v3) w.heap.size 36 #[v0, v1, v2, v3] := by
      intro wx Ix hg
      refine ⟨Ix.blk (x := (w.heap.size, 36, #[.int .u8 0, .int .i64 0, .string ⟨#[]⟩, .slice none 0 0])) (by simp), ?_⟩
      rintro v0 v1 v2 v3 rfl rfl rfl rfl
      have Iy := (Ix.perm (permN _ bs _)).st_last (.int .u8 47) (.int .i64 0) (.string ⟨#[]⟩) (.slice Av els.length cv)
      refine ⟨?_, Iy.blk (x := (w.heap.size, 36, #[.int .u8 47, .int .i64 0, .string ⟨#[]⟩, .slice Av els.length cv])) (by simp)⟩
      obtain ⟨m', hm'⟩ := HGO.out 1 (σ', tsP) (by rw [PP.stmts, hg]; rfl)
      have hrow := HRV.out.own (W := _) (fun x hx => Iy.blk (x := x) (by simp [hx]))
      obtain ⟨A', c', hv', hk'⟩ := kids_of_row (Z := fun g => w.heap.size ≤ g) hrow (fun x hx => (Iy.ks (x.A, x.kids) (List.mem_map_of_mem hx)).weak (fun g hg _ => hg.1.resolve_left (fun h => h))) (fun g hg => (hrow.lt g hg).1)
      exact ⟨_, _, σ', rfl, ⟨47, 0, [], A', c', els.map NodeE.tree, by rw [hv']; rfl, rfl, hk'⟩, Iy.ps, Iy.fr, m', .node 47 0 [] tsP, by simp only [hm', Option.map_some], fun he => by rw [HT.out he]⟩
    have FIN := Lib.hid fin
    clear fin
    by_cases he : σ'.err = 0
    · have e1 : ((σ'.err : Int) == 0) = true := by simp [he]
      rw [if_pos he] at hml
      obtain rfl := hsk he
      have hnx' := hnx he
      have HML := Lib.hid hml
      clear hml hnx hsk
      by_cases hlt : σ'.next < E.ts.length
      · have e2 : decide ((0 : Int) < ((E.ts.length - σ'.next : Nat) : Int)) = true := by simp; omega
        have hmo : PP.more E σ' = true := by simp [PP.more, he, hlt]
        have hsee := rsee_inv I
        unfold seenV at hsee
        have hst := seen_text E σ' (s := [125]) (by decide)
        generalize (seen E σ').2.1 = tx at *
        generalize ((seen E σ').1 : Int) = kd at *
        generalize ((seen E σ').2.2 : Int) = ps at *
        have HSEE := Lib.hid hsee
        clear hsee I
        cases hse : PP.sees E σ' [125] with
        | true =>
          rw [hse] at hst
          have hg : PP.goes E false σ' = false := by simp [PP.goes, hse]
          go_wp2_with fail
          refine HSEE.out.mono ?_
          rintro e w2 ⟨rfl, I2⟩
          have HX := Lib.hid (FIN.out _ I2 hg)
          obtain ⟨⟨n0, n1, n2, n3⟩, _, _, _, _⟩ := I2.b0.four
          obtain ⟨⟨r0, r1, r2, r3⟩, q0, q1, q2, q3⟩ := HX.out.1.four
          clear I2 HSEE x0 x2
          go_wp2_with fail
          refine bodyPost_ret (node_result rfl rfl (HX.out.2 _ _ _ _ rfl rfl rfl rfl).2) rfl ?_
          exact (HX.out.2 _ _ _ _ rfl rfl rfl rfl).1
        | false =>
          rw [hse] at hst
          have hg : PP.goes E false σ' = true := by simp [PP.goes, hse, hmo]
          have HG := Lib.hid hg
          have HE0 := Lib.hid he
          have hcnt := HC.out
          unfold rcnt at hcnt
          rw [if_pos he] at hcnt
          clear hse hg he hmo FIN HC
          go_wp2_with fail
          refine HSEE.out.mono ?_
          rintro e w2 ⟨rfl, I2⟩
          have HI2 := Lib.hid I2
          have HONE := HHS.out σ' hn hnx'
          have HCALL := Lib.hid (rtree_inv I2 (HONE _ I2.ps))
          have HCALLd := Lib.hid (rtree_inv I2.drew (HONE _ I2.drew.ps))
          have HBV := Lib.hid (show ∀ x ∈ bs, x ∈ ((N, 36, #[.int .u8 47, .int .i64 0, .string ⟨#[]⟩, .slice Av els.length cv]) :: (bs ++ [(w.heap.size, 36, #[.int .u8 0, .int .i64 0, .string ⟨#[]⟩, .slice none 0 0])])) from fun x hx => by simp [hx])
          have t3 : w2.cell? ⟨N, 3, none⟩ = some (.slice Av els.length cv) := I2.b0.cell 3
          have hw0 := I2.fr.size
          clear I2 HSEE x0 x2 HONE
          go_wp2_with fail
          go_region_law (first | (refine step_append_lies _ (by rfl) _ _ 34 (by rfl) w.heap.size 36 i0 (.agg #[.int .u8 0, .int .i64 0, .string ⟨#[]⟩, .slice none 0 0]) 4 56 Tryz.underlying34 HI0.out HZ0.out HZ1.out HZ2.out (by rfl) (by decide) _ _ _ (by rfl) (HRV.out.own (fun x hx => HI5a.out.blk (HBV.out x hx))) ⟨w5.heap.size, 0, none⟩ 1 1 [.int .u8 (k : Int), .int .i64 num, .string ⟨nm.toArray⟩, .slice A kids.length c] (by rfl) (by rfl) (World.news_of_block (heap_alloc_new w5 _)) (by intro u hu; simp at hu; rcases hu with rfl | rfl | rfl | rfl <;> rfl) (by decide) (by unfold maxLen; omega) (by omega) (by simp; omega) (w5.heap.size + 1) (by simp) ?_; intro g cap w7 hown7 hg7 hat7 hlt7; obtain ⟨bs', hr', I7⟩ := RInv.append (rest := ((N, 36, #[.int .u8 47, .int .i64 0, .string ⟨#[]⟩, .slice Av els.length cv]) :: [(w.heap.size, 36, #[.int .u8 0, .int .i64 0, .string ⟨#[]⟩, .slice none 0 0])])) (HI5a.out.perm (permN _ _ _)) HRV.out hown7 hg7 hat7 (by simp) rfl; have c7 : w7.cell? ⟨N, 3, none⟩ = some (.slice Av els.length cv) := (I7.blk (x := (N, 36, #[.int .u8 47, .int .i64 0, .string ⟨#[]⟩, .slice Av els.length cv])) (by simp)).cell 3; have f7 := (I7.blk (x := (N, 36, #[.int .u8 47, .int .i64 0, .string ⟨#[]⟩, .slice Av els.length cv])) (by simp)).frozen 3) | (go_simp; go_at_call 67; (first | (with_reducible refine HCALL.out.mono ?_) | (with_reducible refine HCALLd.out.mono ?_)); rintro e w5 ⟨k, num, nm, A, c, kids, σ3, rfl, I5, n3, t3', hr3, ht3⟩; have hs5 := I5.fr.size; have c5 : w5.cell? ⟨N, 3, none⟩ = some (.slice Av els.length cv) := I5.b0.cell 3; have hT5 := I5.b0.lt; have HI5a := Lib.hid (I5.more (.cells #[.int .u8 (k : Int), .int .i64 num, .string ⟨nm.toArray⟩, .slice A kids.length c] 36))))
          all_goals
            have HQ := Lib.hid (I7.set (l1 := bs') 3 (.slice (some ⟨g, 0, none⟩) (els.length + 1) cap))
            have hrow : RowV w.heap.size 36 4 (.slice (some ⟨g, 0, none⟩) (els.length + 1) cap) (els ++ [(⟨k, num, nm, A, c, kids⟩ : NodeE)]).length (nodesCells (els ++ [⟨k, num, nm, A, c, kids⟩])) bs' := by
              rw [nodesCells_snoc, List.length_append]
              exact hr'
            obtain ⟨hle3, hadv3⟩ := (PP.stmt_le E n3).2.2.2 _ _ hr3
            have hcnt3 : rcnt σ3 (els ++ [(⟨k, num, nm, A, c, kids⟩ : NodeE)]).length := by
              have h1 := hle3.1
              unfold rcnt
              simp only [List.length_append, List.length_cons, List.length_nil]
              rcases hadv3 with h2 | h2
              · rw [if_neg h2]; simp only at h1; omega
              · simp only at h2; split <;> omega
            have hREL : StsRel b Y E σ w N _ := ⟨σ3, _, els ++ [⟨k, num, nm, A, c, kids⟩], tsP ++ [t3'], bs', hrow, (HQ.out.perm (permN _ _ _).symm).sub (fun x hx => by
                rw [List.map_append, List.mem_append] at hx
                rcases hx with hx | hx
                · exact List.mem_cons_of_mem _ hx
                · simp only [List.map_cons, List.map_nil, List.mem_cons, List.not_mem_nil, or_false] at hx
                  subst hx
                  exact List.mem_cons_self), fun h3 => by
                rw [List.map_append, HT.out HE0.out]
                congr 1
                rw [← ht3 h3]; rfl, by have := hle3.1; simp only at this; omega, hcnt3, fun m r hr => HGO.out (max n3 m + 1) r (by
                  rw [PP.stmts, if_pos HG.out, PP.statement_le E (Nat.le_max_left _ _) hr3]
                  exact PP.stmts_le E (Nat.le_max_right _ _) hr)⟩
            have hMEAS := rleft_of HQ.out.ps
            have hnx8 := HQ.out.ps.next
            have hlt4 : σ3.err = 0 → E.ts.length - σ3.next + 1 < E.ts.length - σ'.next + 1 := fun h4 => by
              have h6 := hnx8 h4
              rcases hadv3 with h2 | h2
              · exact absurd h4 h2
              · simp only at h2; omega
            have HREL := Lib.hid hREL
            have HMEAS := Lib.hid hMEAS
            have HLT4 := Lib.hid hlt4
            clear I7 hr' hown7 hg7 hat7 I5 HI5a HCALL HCALLd hREL hMEAS hlt4 hnx8 hle3 hadv3 hr3 ht3 hrow hcnt3
            go_wp2_with fail
            go_roundw
            case rel => exact HREL.out
            case measure =>
              rw [HMEAS.out, HML.out]
              split
              · rename_i h4; exact HLT4.out h4
              · omega
      · have e2 : decide ((0 : Int) < ((E.ts.length - σ'.next : Nat) : Int)) = false := by simp; omega
        have e0 : E.ts.length - σ'.next = 0 := by omega
        rw [e0] at x0
        have hg : PP.goes E false σ' = false := by simp [PP.goes, PP.more, hlt]
        have HX := Lib.hid (FIN.out _ I hg)
        obtain ⟨⟨n0, n1, n2, n3⟩, _, _, _, _⟩ := I.b0.four
        obtain ⟨⟨r0, r1, r2, r3⟩, q0, q1, q2, q3⟩ := HX.out.1.four
        clear I e2 e0
        go_wp2_with fail
        refine bodyPost_ret (node_result rfl rfl (HX.out.2 _ _ _ _ rfl rfl rfl rfl).2) rfl ?_
        exact (HX.out.2 _ _ _ _ rfl rfl rfl rfl).1
    · have e1 : ((σ'.err : Int) == 0) = false := beq_eq_false_iff_ne.2 (by omega)
      have hg : PP.goes E false σ' = false := by simp [PP.goes, PP.more, he]
      have HX := Lib.hid (FIN.out _ I hg)
      obtain ⟨⟨n0, n1, n2, n3⟩, _, _, _, _⟩ := I.b0.four
      obtain ⟨⟨r0, r1, r2, r3⟩, q0, q1, q2, q3⟩ := HX.out.1.four
      clear I hml hnx hsk
      go_wp2_with fail
      refine bodyPost_ret (node_result rfl rfl (HX.out.2 _ _ _ _ rfl rfl rfl rfl).2) rfl ?_
      exact (HX.out.2 _ _ _ _ rfl rfl rfl rfl).1
theorem rblock_of (HS : ∀ σ', σ.next ≤ σ'.next → σ'.next ≤ E.ts.length → StOk b Y E σ') : BkOk b Y E σ := by
  intro w h
  have I0 := (RInv.start (Z := NoZ) h (fun h => h)).alloc #[.int .u8 0, .int .i64 0, .string ⟨#[]⟩, .slice none 0 0] 36 rfl
  have HW := Lib.hid (rwant_inv ⟨#[123]⟩ (by decide) I0)
  have hle := PP.le_require E σ [123]
  have HSS := Lib.hid (rsts_of (b := b) (Y := Y) (E := E) (σ := PP.require E σ [123]) (fun σ' h1 h2 => HS σ' (Nat.le_trans hle.1 h1) h2))
  clear I0 h HS
  go_enter Tryz.func96, Tryz.ntmps96
  go_wp2_with fail
  refine HW.out.mono ?_
  rintro e w1 ⟨rfl, I1⟩
  have HST := Lib.hid (rtree_inv I1 (HSS.out _ I1.ps))
  clear I1 HW
  go_wp2_with fail
  refine HST.out.mono ?_
  rintro e w2 ⟨k, num, nm, A, c, kids, σ2, rfl, I2, n2, t2, hr2, ht2⟩
  have I3 := I2.alloc #[.int .u8 (k : Int), .int .i64 num, .string ⟨nm.toArray⟩, .slice A kids.length c] 36 rfl
  have HW2 := Lib.hid (rwant_inv ⟨#[125]⟩ (by decide) I3)
  obtain ⟨r, hr, he⟩ := Option.map_eq_some_iff.1 hr2
  injection he with he1 he2
  have hfin : PP.block E (n2 + 1) σ = some (PP.require E σ2 [125], t2) := by
    rw [PP.block, hr, ← he1, ← he2]; rfl
  have HFIN := Lib.hid hfin
  have HT2 := Lib.hid ht2
  clear I2 I3 HST hr2 ht2 hr he1 he2 hfin
  go_wp2_with fail
  refine HW2.out.mono ?_
  rintro e w4 ⟨rfl, I4⟩
  obtain ⟨⟨n0, n1, n2, n3⟩, _, _, _, _⟩ := I4.b0.four
  obtain ⟨⟨r0, r1, r2, r3⟩, q0, q1, q2, q3⟩ := I4.b1.four
  have HQ := Lib.hid (fun v0 v1 v2 v3 => I4.st1 v0 v1 v2 v3)
  clear I4 HW2
  go_wp2_with fail
  refine bodyPost_ret (node_result rfl rfl (HQ.out _ _ _ _).b1) rfl ?_
  exact (HQ.out _ _ _ _).done (k := k) (num := num) (nm := nm) (c := c) (A := A) (kids := kids) (by simp) ⟨_, _, HFIN.out, fun he => HT2.out (err_of_le (PP.le_require E σ2 [125]) he)⟩
end
end Go.Proofs.YtglaecalbamnkaaGreatDoor
