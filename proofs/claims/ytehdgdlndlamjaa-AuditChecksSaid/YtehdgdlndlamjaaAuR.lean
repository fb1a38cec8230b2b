/- The reference's cut-off events. -/
import Derived.Test.YtehdgdlndlamjaaAuQ
import Derived.Deep.CutRange
namespace Go.Proofs.Ytehdgdlndlamjaa
open Go.RowKit Go.Maps Go.Sort Go.Lib
open SL (Tk Cd)
open AU (Pr Rq Ev Mo)
theorem AU.pre_succ {α : Type} (f : Nat → List α) (c : Nat) : AU.preL f (c + 1) = AU.preL f c ++ f c := by
  unfold AU.preL
  rw [List.range_succ, List.flatMap_append]
  simp
theorem AU.pre_len {α : Type} (f : Nat → List α) (b : Nat) (h : ∀ c, (f c).length ≤ b) : ∀ c, (AU.preL f c).length ≤ c * b
  | 0 => by simp [AU.preL]
  | c + 1 => by
    have := AU.pre_len f b h c
    have := h c
    rw [AU.pre_succ, List.length_append, Nat.add_mul]
    omega
section
set_option maxHeartbeats 4000000
set_option maxRecDepth 100000
theorem rcut_any {B : World} {X : Aud} (hx : AudOk B X) {gm gj : Nat} {m : Mo} {w : World} (hI : RfInv B X gm gj m w) (hph : m.phase = 5) (hl : m.ps.length = X.ts.length) (hok : AU.OkPs X.n m.slot 1000000000 X.ts m.ps) (_hs : m.slot ≤ 100000) :
    Calls Try.prog 26 #[.pointer (some ⟨gm, 0, none⟩)] w fun e w' => ∃ v, e = .returned v ∧ w'.ownsRow w.heap.size 54 6 v (AU.cutL X.ts m.ps m.slot X.n).length (reC m.slot 5 (AU.cutL X.ts m.ps m.slot X.n)) ∧ Below w.heap.size w w' := by
  have hnot : ∀ (x : Bool) (w : World), (Op.unary .not (.bool x)).run Try.prog w = .ok (.bool (!x)) w := fun _ _ => rfl
  obtain ⟨i1, ki, kz0, kz1, kz2⟩ := info_parts infoRe
  have K0 := Lib.hid ki
  have K1 := Lib.hid kz0
  have K2 := Lib.hid kz1
  have K3 := Lib.hid kz2
  have HX := Lib.hid hx
  have HI := Lib.hid hI
  have HOK := Lib.hid hok
  have HL := Lib.hid hl
  have h40 := hx.len
  have hn4 := hx.n4
  obtain ⟨a0, a1, a2, a3, a4, a6, hlm⟩ := hI.cells
  rw [hph] at a4
  rw [AU.cutL_eq, hl]
  have hF : ∀ (c k : Nat) (t : Tk) (p : Pr), X.ts[k]? = some t → m.ps[k]? = some p → AU.cutG X.ts m.ps m.slot c k = if AU.cutB t p m.slot && (p.core == (c : Int)) then some ⟨p.core, k, (p.jobs : Int) - 1, p.ran⟩ else none := fun c k t p h1 h2 => by
    unfold AU.cutG AU.cutF
    rw [h1, h2]
    simp only
    cases AU.cutB t p m.slot <;> simp
  have HF0 := Lib.hid hF
  generalize AU.cutG X.ts m.ps m.slot = G at *
  generalize hpf : (fun c => AU.overI X.ts.length (G c)) = PF at *
  have HPF := Lib.hid (show ∀ c, PF c = AU.overI X.ts.length (G c) from fun c => by rw [← hpf])
  have HPL := Lib.hid (AU.pre_len PF 40 (fun c => by rw [HPF.out]; exact Nat.le_trans (AU.overI_len _ _) h40))
  clear ki kz0 kz1 kz2 hI hx hok hl hF hph hpf
  go_enter Try.func26, Try.ntmps26
  go_wp2_with fail
  clear a0 a1 a2 a3 a4 a6 hlm
  go_loopw [3, 20] (fun v i wr => ∃ c : Nat, c ≤ X.n ∧ i = .int .i64 (c : Int) ∧ wr.ownsRow w.heap.size 54 6 v (AU.preL PF c).length (reC m.slot 5 (AU.preL PF c)) ∧ Below w.heap.size w wr) (fun _ i _ => X.n - (intOf i).toNat)
  case atStart => exact ⟨0, Nat.zero_le _, rfl, World.ownsRow_nil _ _ _ _, Below.refl _ _⟩
  case round =>
    obtain ⟨c, hc, rfl, hownc, hbwc⟩ := hrel
    obtain ⟨A9, c9, rfl⟩ := own_form hownc
    obtain ⟨wo, hwo⟩ : ∃ wo, wo = wr := ⟨_, rfl⟩
    rw [← hwo] at hownc hbwc ⊢
    clear hwo
    have HOC := Lib.hid hownc
    have HBC := Lib.hid hbwc
    have hI9 := HI.out.below hbwc
    obtain ⟨a0, a1, _, _, _, _, hlm⟩ := hI9.cells
    have hplc := HPL.out c
    have HPS := Lib.hid (AU.pre_succ PF c)
    generalize hpc : AU.preL PF c = pc at *
    have HPC := Lib.hid hpc
    by_cases hcn : c < X.n
    · have q9 : (c : Int) < (X.n : Int) := by omega
      clear hownc hbwc hI9 hpc
      go_wp2_with fail
      clear a0 a1 hlm
      have HF := Lib.hid (HF0.out c)
      have HEC := Lib.hid (HPF.out c)
      generalize G c = F at *
      go_loopw [3, 21] (fun v i wr => ∃ k : Nat, k ≤ X.ts.length ∧ i = .int .i64 (k : Int) ∧ wr.ownsRow w.heap.size 54 6 v (pc ++ AU.overI k F).length (reC m.slot 5 (pc ++ AU.overI k F)) ∧ Below w.heap.size w wr) (fun _ i _ => X.ts.length - (intOf i).toNat)
      case atStart => exact ⟨0, Nat.zero_le _, rfl, by rw [AU.overI_zero, List.append_nil]; exact HOC.out, HBC.out⟩
      case round =>
        obtain ⟨k, hk, rfl, hown, hbw⟩ := hrel
        obtain ⟨A3, c3, rfl⟩ := own_form hown
        have HO := Lib.hid hown
        have HB := Lib.hid hbw
        have hsw := hbw.size
        have HS : pc ++ AU.overI (k + 1) F = (pc ++ AU.overI k F) ++ (F k).toList := by rw [AU.overI_succ, List.append_assoc]
        have hln : (pc ++ AU.overI k F).length ≤ 1000 := by
          rw [List.length_append]
          have h1 := AU.overI_len k F
          have h2 : c * 40 ≤ 4 * 40 := Nat.mul_le_mul_right _ (by omega)
          omega
        generalize hacc : pc ++ AU.overI k F = acc at *
        have HAC := Lib.hid hacc
        clear hacc
        have HSN := Lib.hid HS
        clear HS
        have hI2 := HI.out.below hbw
        obtain ⟨a0, _, a2, _, _, _, hlm⟩ := hI2.cells
        by_cases hlt : k < X.ts.length
        · have q0 : (k : Int) < (X.ts.length : Int) := by omega
          obtain ⟨t, ht⟩ : ∃ t, X.ts[k]? = some t := ⟨_, List.getElem?_eq_getElem hlt⟩
          obtain ⟨p, hp⟩ : ∃ p, m.ps[k]? = some p := ⟨_, List.getElem?_eq_getElem (by rw [HL.out]; exact hlt)⟩
          have hFk := HF.out k t p ht hp
          obtain ⟨b1, b2, b3, b4, b5, b6, b7⟩ := HOK.out k t p ht hp
          obtain ⟨v1, v2, v3⟩ := SL.okTk_iff.1 (HX.out.ok t (List.mem_of_getElem? ht))
          obtain ⟨js, hal, hbj⟩ := hI2.bj
          obtain ⟨x, hxk, hxp, hxs⟩ := hal.at hp
          obtain ⟨c0, c1, c2, c3', c4, c5⟩ := jr_cells hbj hxk
          subst hxp
          have hba := ((Gr.refl wr).alloc (.cells #[.int .i64 (x.p.jobs : Int), .int .i64 x.p.rel, .int .i64 x.p.ran, .int .i64 x.la, .int .i64 x.co, .bool x.p.live] 73)).1
          have hI3 := hI2.below hba
          obtain ⟨tb, to_, hA, d0', _, t1, t2⟩ := hI3.task HX.out ht
          obtain ⟨_, _, _, d3, _, _, hlm3⟩ := hI3.cells
          rw [hA] at a0
          obtain ⟨p0, p1, p2, p3, p4, p5⟩ := (Blk.new wr 73 #[.int .i64 (x.p.jobs : Int), .int .i64 x.p.rel, .int .i64 x.p.ran, .int .i64 x.la, .int .i64 x.co, .bool x.p.live]).six
          have HI1 := Lib.hid hI3
          have HP1 := Lib.hid (Blk.new wr 73 #[.int .i64 (x.p.jobs : Int), .int .i64 x.p.rel, .int .i64 x.p.ran, .int .i64 x.la, .int .i64 x.co, .bool x.p.live])
          have HOA := Lib.hid (HO.out.alloc (.cells #[.int .i64 (x.p.jobs : Int), .int .i64 x.p.rel, .int .i64 x.p.ran, .int .i64 x.la, .int .i64 x.co, .bool x.p.live] 73))
          have HBA := Lib.hid (HB.out.alloc hsw (.cells #[.int .i64 (x.p.jobs : Int), .int .i64 x.p.rel, .int .i64 x.p.ran, .int .i64 x.la, .int .i64 x.co, .bool x.p.live] 73))
          have hlb : AU.cutB t x.p m.slot = (x.p.live && decide (0 < x.p.ran) && decide (x.p.last = (m.slot : Int)) && decide (t.cost ≤ x.p.ran)) := rfl
          rw [hlb] at hFk
          have HFK := Lib.hid hFk
          have HXS := Lib.hid hxs
          clear hown hbw hI2 hI3 hba hFk hlb hp ht hal hbj hxk hxs hA
          generalize x.p.live = lv at *
          go_upto_region 48 with fail
          generalize wr.alloc (.cells #[.int .i64 (x.p.jobs : Int), .int .i64 x.p.rel, .int .i64 x.p.ran, .int .i64 x.la, .int .i64 x.co, .bool lv] 73) = w1 at *
          clear c0 c1 c2 c3' c4 c5 a0 a2 hlm
          cases lv with
          | false =>
            have HSA := Lib.hid (show pc ++ AU.overI (k + 1) F = acc by rw [HSN.out, HFK.out]; simp)
            clear HFK HSN HI1 HP1 HXS
            go_quiet (fail)
            go_wp2_with fail
            refine ⟨⟨k + 1, hlt, by simp, ?_, ?_⟩, by simp [intOf]; omega⟩
            · rw [HSA.out]; exact HOA.out
            · exact below_drewN HBA.out _
          | true =>
            by_cases h0 : x.p.ran = t.cost
            · have d0 : (x.p.ran == t.cost) = true := by simp [h0]
              obtain ⟨hla, hco⟩ := HXS.out (by omega)
              by_cases h1 : x.la = (m.slot : Int)
              · have d1 : (x.la == (m.slot : Int)) = true := by simp [h1]
                by_cases h2 : x.co = (c : Int)
                · have d2 : (x.co == (c : Int)) = true := by simp [h2]
                  have HSA := Lib.hid (show pc ++ AU.overI (k + 1) F = acc ++ [(⟨(c : Int), k, (x.p.jobs : Int) - 1, x.p.ran⟩ : Rq)] by rw [HSN.out, HFK.out, decide_eq_true (show 0 < x.p.ran by omega), decide_eq_true (show x.p.last = (m.slot : Int) by rw [← hla]; exact h1), decide_eq_true (show t.cost ≤ x.p.ran by omega), show (x.p.core == (c : Int)) = true by rw [← hco]; exact d2, show x.p.core = (c : Int) by rw [← hco]; exact h2]; rfl)
                  clear HFK HSN h0 h1 h2 hla hco HXS
                  go_quiet (fail)
                  have HB7 := Lib.hid (below_drewN HBA.out nq)
                  have HO7 : Hid ((w1.drewN nq).ownsRow w.heap.size 54 6 (.slice A3 acc.length c3) acc.length (reC m.slot 5 acc)) := Lib.hid HOA.out
                  have hI7 := HI1.out.below ((Gr.refl w1).drewN nq).1
                  obtain ⟨_, _, _, b3, _, _, hlm7⟩ := hI7.cells
                  obtain ⟨y0, _, y2, _, _, _⟩ := (HP1.out.drewN nq).six
                  have hs7 := HB7.out.size
                  have z5 : IntKind.i64.wrap ((x.p.jobs : Int) - 1) = (x.p.jobs : Int) - 1 := IntWalk.i64_in _ (by omega)
                  clear hI7 HBA HOA HI1 HP1
                  generalize w1.drewN nq = w7 at *
                  have HBX := Lib.hid (HB7.out.drew.alloc (show w.heap.size ≤ w7.drew.heap.size from hs7) (.cells #[.int .i64 (m.slot : Int), .int .i64 (c : Int), .int .i64 (k : Int), .int .i64 ((x.p.jobs : Int) - 1), .int .u8 5, .int .i64 x.p.ran] 54))
                  have HOX : Hid ((w7.drew.alloc (.cells #[.int .i64 (m.slot : Int), .int .i64 (c : Int), .int .i64 (k : Int), .int .i64 ((x.p.jobs : Int) - 1), .int .u8 5, .int .i64 x.p.ran] 54)).ownsRow w.heap.size 54 6 (.slice A3 acc.length c3) acc.length (reC m.slot 5 acc)) := Lib.hid (World.ownsRow.alloc (show w7.drew.ownsRow w.heap.size 54 6 (.slice A3 acc.length c3) acc.length (reC m.slot 5 acc) from HO7.out) _)
                  go_wp2_with fail
                  go_region_law (first | (refine step_append_lies _ (by rfl) _ _ 32 (by rfl) w.heap.size 54 i1 (.agg #[.int .i64 0, .int .i64 0, .int .i64 0, .int .i64 0, .int .u8 0, .int .i64 0]) 6 48 Try.underlying32 K0.out K1.out K2.out K3.out (by rfl) (by decide) _ _ _ (by rfl) HOX.out ⟨w7.heap.size, 0, none⟩ 1 1 [.int .i64 (m.slot : Int), .int .i64 (c : Int), .int .i64 (k : Int), .int .i64 ((x.p.jobs : Int) - 1), .int .u8 5, .int .i64 x.p.ran] (by rfl) (by rfl) (World.news_of_block (cs := #[.int .i64 (m.slot : Int), .int .i64 (c : Int), .int .i64 (k : Int), .int .i64 ((x.p.jobs : Int) - 1), .int .u8 5, .int .i64 x.p.ran]) (heap_alloc_new w7.drew _)) (by intro u hu; simp at hu; rcases hu with rfl | rfl | rfl | rfl | rfl | rfl <;> rfl) (by decide) (by unfold maxLen; omega) (by omega) (by simp; omega) (w7.heap.size + 1) (by simp) ?_; intro g cap w8 hown8 hg8 hat8 hlt8; have hB8 : Below w.heap.size w w8 := Below.grown HBX.out hg8 (by simp; omega) (fun k hk => (HOX.out.lt k hk).1)))
                  all_goals
                    have HB8 := Lib.hid hB8
                    have HR8 := Lib.hid (show w8.ownsRow w.heap.size 54 6 (.slice (some ⟨g, 0, none⟩) (acc.length + 1) cap) (acc ++ [(⟨(c : Int), k, (x.p.jobs : Int) - 1, x.p.ran⟩ : Rq)]).length (reC m.slot 5 (acc ++ [(⟨(c : Int), k, (x.p.jobs : Int) - 1, x.p.ran⟩ : Rq)])) from (by
                      rw [reC_snoc]
                      have h := hown8
                      simpa [reL] using h))
                    clear hown8 hg8 hlt8 hB8 hat8
                    go_wp2_with fail
                    refine ⟨⟨k + 1, hlt, by simp, ?_, HB8.out⟩, by simp [intOf]; omega⟩
                    rw [HSA.out]
                    exact HR8.out
                · have d2 : (x.co == (c : Int)) = false := by simp [h2]
                  have HCX := Lib.hid (show (x.p.core == (c : Int)) = false by rw [← hco]; exact d2)
                  have HSA := Lib.hid (show pc ++ AU.overI (k + 1) F = acc by rw [HSN.out, HFK.out, HCX.out]; simp)
                  clear HFK HSN HI1 HP1 h0 h1 h2 hla hco HXS
                  go_quiet (fail)
                  go_wp2_with fail
                  refine ⟨⟨k + 1, hlt, by simp, ?_, ?_⟩, by simp [intOf]; omega⟩
                  · rw [HSA.out]; exact HOA.out
                  · exact below_drewN HBA.out _
              · have d1 : (x.la == (m.slot : Int)) = false := by simp [h1]
                have HLX := Lib.hid (show decide (x.p.last = (m.slot : Int)) = false from decide_eq_false (by rw [← hla]; exact h1))
                have HSA := Lib.hid (show pc ++ AU.overI (k + 1) F = acc by rw [HSN.out, HFK.out, HLX.out]; simp)
                clear HFK HSN HI1 HP1 h0 h1 hla hco HXS
                go_quiet (fail)
                go_wp2_with fail
                refine ⟨⟨k + 1, hlt, by simp, ?_, ?_⟩, by simp [intOf]; omega⟩
                · rw [HSA.out]; exact HOA.out
                · exact below_drewN HBA.out _
            · have d0 : (x.p.ran == t.cost) = false := by simp [h0]
              have HRX := Lib.hid (show decide (t.cost ≤ x.p.ran) = false from decide_eq_false (by omega))
              have HSA := Lib.hid (show pc ++ AU.overI (k + 1) F = acc by rw [HSN.out, HFK.out, HRX.out]; simp)
              clear HFK HSN HI1 HP1 h0 HXS
              go_quiet (fail)
              go_wp2_with fail
              refine ⟨⟨k + 1, hlt, by simp, ?_, ?_⟩, by simp [intOf]; omega⟩
              · rw [HSA.out]; exact HOA.out
              · exact below_drewN HBA.out _
        · have q0 : ¬ (k : Int) < (X.ts.length : Int) := by omega
          have HSA := Lib.hid (show AU.preL PF (c + 1) = acc by rw [HPS.out, HEC.out, ← HAC.out, show k = X.ts.length from by omega])
          clear hown hbw hI2
          go_wp2_with fail
          refine ⟨⟨c + 1, hcn, by simp, ?_, HB.out⟩, by simp [intOf]; omega⟩
          rw [HSA.out]
          exact HO.out
    · have q9 : ¬ (c : Int) < (X.n : Int) := by omega
      have hce : c = X.n := by omega
      subst hce
      clear hownc hbwc hI9 hpc HF0 HPF HPL HI HX HOK
      go_wp2_with fail
      go_ret
      rw [HPC.out]
      exact ⟨_, rfl, HOC.out, HBC.out⟩
end
end Go.Proofs.Ytehdgdlndlamjaa
