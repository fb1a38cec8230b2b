/- The reference's dispatches. -/
import Derived.Test.YtehdgdlndlamjaaAuQ
import Derived.Test.YtehdgdlndlamjaaPlainAu7
import Derived.Test.YtehdgdlndlamjaaAuR
import Derived.Deep.CutRange
import Derived.BigRegion
namespace Go.Proofs.Ytehdgdlndlamjaa
open Go.RowKit Go.Maps Go.Sort Go.Lib
open SL (Tk Cd)
open AU (Pr Rq Ev Mo)
section
set_option maxHeartbeats 8000000
set_option maxRecDepth 100000
theorem rdisp_any {B : World} {X : Aud} (hx : AudOk B X) {gm gj : Nat} {m : Mo} {w : World} (hI : RfInv B X gm gj m w) (hph : m.phase = 3) (hl : m.ps.length = X.ts.length) (hok : AU.OkPs X.n m.slot 1000000000 X.ts m.ps) (hs : m.slot ≤ 100000) (ha : AU.Apart m.ps) :
    Calls Try.prog 26 #[.pointer (some ⟨gm, 0, none⟩)] w fun e w' => ∃ v, e = .returned v ∧ w'.ownsRow w.heap.size 54 6 v (AU.dispL X.ts m.ps m.slot X.n).length (reC m.slot 2 (AU.dispL X.ts m.ps m.slot X.n)) ∧ Below w.heap.size w w' := by
  have hnot : ∀ (x : Bool) (w : World), (Op.unary .not (.bool x)).run Try.prog w = .ok (.bool (!x)) w := fun _ _ => rfl
  obtain ⟨i1, ki, kz0, kz1, kz2⟩ := info_parts infoRe
  have K0 := Lib.hid ki
  have K1 := Lib.hid kz0
  have K2 := Lib.hid kz1
  have K3 := Lib.hid kz2
  have HX := Lib.hid hx
  have HI := Lib.hid hI
  have HOK := Lib.hid hok
  have HL := Lib.hid hl
  have h40 := hx.len
  have hn4 := hx.n4
  obtain ⟨a0, a1, a2, a3, a4, a6, hlm⟩ := hI.cells
  rw [hph] at a4
  obtain ⟨i2, li, lz0, lz1, lz2⟩ := info_parts infoRc
  have L0 := Lib.hid li
  have L1 := Lib.hid lz0
  have L2 := Lib.hid lz1
  have L3 := Lib.hid lz2
  obtain ⟨i3, bi, bz0, bz1, bz2⟩ := info_parts infoIntN
  have M0 := Lib.hid bi
  have M1 := Lib.hid bz0
  have M2 := Lib.hid bz1
  have M3 := Lib.hid bz2
  have hcds : (∀ c ∈ AU.canL X.ts m.ps m.slot, okC c) ∧ (AU.canL X.ts m.ps m.slot).length ≤ 40 := by
    refine ⟨fun c hc => ?_, ?_⟩
    · obtain ⟨i, t, p, g1, g2, g3, g4, g5, rfl⟩ := AU.canL_mem hc
      obtain ⟨b1, b2, b3, b4, b5, b6, b7⟩ := hok i t p g1 g2
      have hv := hx.ok t (List.mem_of_getElem? g1)
      exact ⟨⟨hv, by show 1 ≤ p.ran + 1; omega, by show p.ran + 1 ≤ t.cost; omega⟩, b2, by show p.rel ≤ 1000000; omega⟩
    · unfold AU.canL
      have := AU.overI_len m.ps.length (AU.canF X.ts m.ps m.slot)
      omega
  have hsel : AU.sel X.ts m.ps m.slot X.n = (AU.selN X.n (AU.canL X.ts m.ps m.slot)).map (·.num) := by
    unfold AU.sel
    rw [AU.selN_eq X.n (AU.canL X.ts m.ps m.slot) (AU.canL_nodup _ _ _ _)]
  have hcl : AU.canL X.ts m.ps m.slot = AU.overI X.ts.length (AU.canF X.ts m.ps m.slot) := by unfold AU.canL; rw [hl]
  have hsm : ∀ i ∈ AU.sel X.ts m.ps m.slot X.n, ∃ t p, X.ts[i]? = some t ∧ m.ps[i]? = some p := fun i hi => by
    obtain ⟨t, p, g1, g2, _, _⟩ := AU.sel_mem hi
    exact ⟨t, p, g1, g2⟩
  have hfx : ∀ i ∈ AU.sel X.ts m.ps m.slot X.n, ∀ c, AU.fixed m.ps m.slot i = some c → 0 ≤ c ∧ c < X.n := fun i hi c hc => by
    obtain ⟨p, b1, b2, b3, rfl⟩ := AU.fixed_some hc
    obtain ⟨t, q, d1, d2⟩ := hsm i hi
    exact (hok i t p d1 b1).core b2
  have hcr := AU.cores_res (AU.sel_len X.ts m.ps m.slot X.n) (fun i hi c hc => (hfx i hi c hc).1)
  have hbl : ∀ b ∈ AU.befL m.ps m.slot (AU.sel X.ts m.ps m.slot X.n), b < (X.n : Int) := fun b hb => by
    obtain ⟨i, hi, rfl⟩ := List.mem_map.1 hb
    have := hx.n1
    cases hf : AU.fixed m.ps m.slot i with
    | none => show (-1 : Int) < _; omega
    | some c => exact (hfx i hi c hf).2
  have hdl := AU.disp_pick (ts := X.ts) (slot := m.slot) (n := X.n) ha
  have hrl : (AU.resL m.ps m.slot X.n (AU.sel X.ts m.ps m.slot X.n)).length = (AU.sel X.ts m.ps m.slot X.n).length := AU.resJ_len _ _ _ _ _
  have hra : ∀ (k i : Nat), (AU.sel X.ts m.ps m.slot X.n)[k]? = some i → ∃ c, (AU.resL m.ps m.slot X.n (AU.sel X.ts m.ps m.slot X.n))[k]? = some (AU.mkR m.ps c i) := fun k i h => AU.resJ_at _ _ _ _ _ _ _ h
  have hsl := AU.sel_len X.ts m.ps m.slot X.n
  generalize AU.resL m.ps m.slot X.n (AU.sel X.ts m.ps m.slot X.n) = R at *
  rw [hdl]
  generalize AU.sel X.ts m.ps m.slot X.n = ch at *
  generalize AU.canL X.ts m.ps m.slot = cd at *
  have hF : ∀ (k : Nat) (t : Tk) (p : Pr), X.ts[k]? = some t → m.ps[k]? = some p → AU.canF X.ts m.ps m.slot k = if AU.canB t p m.slot then some ⟨k, t, p.rel, p.ran + 1⟩ else none := fun k t p h1 h2 => by
    unfold AU.canF
    rw [h1, h2]
  have HF := Lib.hid hF
  generalize AU.canF X.ts m.ps m.slot = F at *
  have HSEL := Lib.hid hsel
  have HCL := Lib.hid hcl
  have HSM := Lib.hid hsm
  have HCR := Lib.hid hcr
  have HBL := Lib.hid hbl
  have HRL := Lib.hid hrl
  have HRA := Lib.hid hra
  have HCD := Lib.hid hcds
  clear ki kz0 kz1 kz2 li lz0 lz1 lz2 bi bz0 bz1 bz2 hI hx hok hl hF hph hsel hcl hsm hfx hcr hbl hrl hra hcds hdl ha
  go_enter Try.func26, Try.ntmps26
  go_wp2_with fail
  clear a0 a1 a2 a3 a4 a6 hlm
  go_loopw [6, 7] (fun v i wr => ∃ k : Nat, k ≤ X.ts.length ∧ i = .int .i64 (k : Int) ∧ wr.ownsRow w.heap.size 84 5 v (AU.overI k F).length (rcC (AU.overI k F)) ∧ Below w.heap.size w wr) (fun _ i _ => X.ts.length - (intOf i).toNat)
  case atStart => exact ⟨0, Nat.zero_le _, rfl, World.ownsRow_nil _ _ _ _, Below.refl _ _⟩
  case round =>
    obtain ⟨k, hk, rfl, hown, hbw⟩ := hrel
    obtain ⟨A3, c3, rfl⟩ := own_form hown
    have HO := Lib.hid hown
    have HB := Lib.hid hbw
    have hsw := hbw.size
    have HS := AU.overI_succ k F
    have hln := AU.overI_len k F
    generalize hacc : AU.overI k F = acc at *
    have HAC := Lib.hid hacc
    clear hacc
    have HSN := Lib.hid HS
    clear HS
    have hI2 := HI.out.below hbw
    obtain ⟨a0, _, a2, _, _, _, hlm⟩ := hI2.cells
    by_cases hlt : k < X.ts.length
    · have q0 : (k : Int) < (X.ts.length : Int) := by omega
      obtain ⟨t, ht⟩ : ∃ t, X.ts[k]? = some t := ⟨_, List.getElem?_eq_getElem hlt⟩
      obtain ⟨p, hp⟩ : ∃ p, m.ps[k]? = some p := ⟨_, List.getElem?_eq_getElem (by rw [HL.out]; exact hlt)⟩
      have hFk := HF.out k t p ht hp
      obtain ⟨b1, b2, b3, b4, b5, b6, b7⟩ := HOK.out k t p ht hp
      obtain ⟨v1, v2, v3⟩ := SL.okTk_iff.1 (HX.out.ok t (List.mem_of_getElem? ht))
      obtain ⟨js, hal, hbj⟩ := hI2.bj
      obtain ⟨x, hxk, hxp, hxs⟩ := hal.at hp
      obtain ⟨c0, c1, c2, c3', c4, c5⟩ := jr_cells hbj hxk
      subst hxp
      have hba := ((Gr.refl wr).alloc (.cells #[.int .i64 (x.p.jobs : Int), .int .i64 x.p.rel, .int .i64 x.p.ran, .int .i64 x.la, .int .i64 x.co, .bool x.p.live] 73)).1
      have hI3 := hI2.below hba
      obtain ⟨tb, to_, hA, d0', _, t1, t2⟩ := hI3.task HX.out ht
      obtain ⟨_, _, _, d3, _, _, hlm3⟩ := hI3.cells
      rw [hA] at a0
      obtain ⟨p0, p1, p2, p3, p4, p5⟩ := (Blk.new wr 73 #[.int .i64 (x.p.jobs : Int), .int .i64 x.p.rel, .int .i64 x.p.ran, .int .i64 x.la, .int .i64 x.co, .bool x.p.live]).six
      have HI1 := Lib.hid hI3
      have HP1 := Lib.hid (Blk.new wr 73 #[.int .i64 (x.p.jobs : Int), .int .i64 x.p.rel, .int .i64 x.p.ran, .int .i64 x.la, .int .i64 x.co, .bool x.p.live])
      have HOA := Lib.hid (HO.out.alloc (.cells #[.int .i64 (x.p.jobs : Int), .int .i64 x.p.rel, .int .i64 x.p.ran, .int .i64 x.la, .int .i64 x.co, .bool x.p.live] 73))
      have HBA := Lib.hid (HB.out.alloc hsw (.cells #[.int .i64 (x.p.jobs : Int), .int .i64 x.p.rel, .int .i64 x.p.ran, .int .i64 x.la, .int .i64 x.co, .bool x.p.live] 73))
      have hlb : AU.canB t x.p m.slot = (x.p.live && decide (x.p.ran < t.cost) && decide (x.p.rel + SL.winR t (x.p.ran + 1) ≤ (m.slot : Int))) := rfl
      rw [hlb] at hFk
      have HFK := Lib.hid hFk
      have HTA := Lib.hid (fun (W : World) (h : RfInv B X gm gj m W) => h.task HX.out ht)
      have hvt := HX.out.ok t (List.mem_of_getElem? ht)
      clear hown hbw hI2 hI3 hba hFk hlb hp ht hal hbj hxk hxs hA
      generalize x.p.live = lv at *
      go_upto_region 16 with fail
      generalize wr.alloc (.cells #[.int .i64 (x.p.jobs : Int), .int .i64 x.p.rel, .int .i64 x.p.ran, .int .i64 x.la, .int .i64 x.co, .bool lv] 73) = w1 at *
      clear c0 c1 c2 c3' c4 c5 a0 a2 hlm
      cases lv with
      | false =>
        have HSA := Lib.hid (show AU.overI (k + 1) F = acc by rw [HSN.out, HFK.out]; simp)
        clear HFK HSN HI1 HP1
        go_quiet (fail)
        go_wp2_with fail
        refine ⟨⟨k + 1, hlt, by simp, ?_, ?_⟩, by simp [intOf]; omega⟩
        · rw [HSA.out]; exact HOA.out
        · exact below_drewN HBA.out _
      | true =>
        by_cases hrc : x.p.ran < t.cost
        · have dg : decide (t.cost ≤ x.p.ran) = false := decide_eq_false (by omega)
          have hw : SL.okW t (x.p.ran + 1) := ⟨hvt, by omega, by omega⟩
          obtain ⟨wb1, wb2⟩ := winR_bound hw
          have HW := Lib.hid (fun W => rwindow_any t (x.p.ran + 1) W hw)
          have z1 : IntKind.i64.wrap (x.p.ran + 1) = x.p.ran + 1 := IntWalk.i64_in _ (by omega)
          have z2 : IntKind.i64.wrap (x.p.rel + SL.winR t (x.p.ran + 1)) = x.p.rel + SL.winR t (x.p.ran + 1) := IntWalk.i64_in _ (by omega)
          have HRC := Lib.hid (show decide (x.p.ran < t.cost) = true from decide_eq_true hrc)
          rw [HRC.out] at HFK
          generalize SL.winR t (x.p.ran + 1) = wR at *
          generalize SL.winD t (x.p.ran + 1) = wD at *
          clear hw hrc hvt
          go_quiet (fail)
          have HI2 := Lib.hid (HI1.out.below ((Gr.refl w1).drewN nq).1)
          have HP2 : Hid (Blk (w1.drewN nq) wr.heap.size 73 #[.int .i64 (x.p.jobs : Int), .int .i64 x.p.rel, .int .i64 x.p.ran, .int .i64 x.la, .int .i64 x.co, .bool true]) := Lib.hid (HP1.out.drewN nq)
          have HOB2 : Hid ((w1.drewN nq).ownsRow w.heap.size 84 5 (.slice A3 acc.length c3) acc.length (rcC acc)) := Lib.hid HOA.out
          have HBB2 := Lib.hid (below_drewN HBA.out nq)
          clear p0 p1 p2 p3 p4 p5 d0' d3 t1 t2 HI1 HP1 HOA HBA hlm3
          generalize w1.drewN nq = w2 at *
          obtain ⟨tb, to_, hA, a0, _, t1, t2⟩ := HTA.out w2 HI2.out
          obtain ⟨_, _, _, a3, _, _, hlm⟩ := HI2.out.cells
          obtain ⟨p0, p1, p2, p3, p4, p5⟩ := HP2.out.six
          go_wp2_with fail
          go_quiet ((go_at_call 34; exact Calls.quiet_of (HW.out _)))
          have HI3 := Lib.hid (HI2.out.below ((Gr.refl w2).drewN nq).1)
          have HP3 : Hid (Blk (w2.drewN nq) wr.heap.size 73 #[.int .i64 (x.p.jobs : Int), .int .i64 x.p.rel, .int .i64 x.p.ran, .int .i64 x.la, .int .i64 x.co, .bool true]) := Lib.hid (HP2.out.drewN nq)
          have HOB3 : Hid ((w2.drewN nq).ownsRow w.heap.size 84 5 (.slice A3 acc.length c3) acc.length (rcC acc)) := Lib.hid HOB2.out
          have HBB3 := Lib.hid (below_drewN HBB2.out nq)
          clear p0 p1 p2 p3 p4 p5 a0 a3 t1 t2 HI2 HP2 HOB2 HBB2 hlm hA
          generalize w2.drewN nq = w3 at *
          obtain ⟨tb, to_, hA, a0, _, t1, t2⟩ := HTA.out w3 HI3.out
          obtain ⟨_, _, _, a3, _, _, hlm⟩ := HI3.out.cells
          obtain ⟨p0, p1, p2, p3, p4, p5⟩ := HP3.out.six
          by_cases hd : x.p.rel + wR ≤ (m.slot : Int)
          · have d1 : decide (x.p.rel + wR ≤ (m.slot : Int)) = true := decide_eq_true hd
            have HSA := Lib.hid (show AU.overI (k + 1) F = acc ++ [(⟨k, t, x.p.rel, x.p.ran + 1⟩ : Cd)] by rw [HSN.out, HFK.out, d1]; rfl)
            clear hd HFK HSN HW
            go_wp2_with fail
            go_quiet (fail)
            have HI4 := Lib.hid (HI3.out.below ((Gr.refl w3).drewN nq).1)
            have HP4 : Hid (Blk (w3.drewN nq) wr.heap.size 73 #[.int .i64 (x.p.jobs : Int), .int .i64 x.p.rel, .int .i64 x.p.ran, .int .i64 x.la, .int .i64 x.co, .bool true]) := Lib.hid (HP3.out.drewN nq)
            have HOB4 : Hid ((w3.drewN nq).ownsRow w.heap.size 84 5 (.slice A3 acc.length c3) acc.length (rcC acc)) := Lib.hid HOB3.out
            have HBB4 := Lib.hid (below_drewN HBB3.out nq)
            clear p0 p1 p2 p3 p4 p5 a0 a3 t1 t2 HI3 HP3 HOB3 HBB3 hlm hA
            generalize w3.drewN nq = w4 at *
            obtain ⟨tb, to_, hA, a0, _, t1, t2⟩ := HTA.out w4 HI4.out
            obtain ⟨_, _, _, a3, _, _, hlm⟩ := HI4.out.cells
            obtain ⟨p0, p1, p2, p3, p4, p5⟩ := HP4.out.six
            have hs4 := HBB4.out.size
            have HBX := Lib.hid (HBB4.out.drew.alloc (show w.heap.size ≤ w4.drew.heap.size from hs4) (.cells #[.int .i64 (k : Int), .int .i64 t.cost, .int .i64 t.per, .int .i64 x.p.rel, .int .i64 (x.p.ran + 1)] 84))
            have HOX : Hid ((w4.drew.alloc (.cells #[.int .i64 (k : Int), .int .i64 t.cost, .int .i64 t.per, .int .i64 x.p.rel, .int .i64 (x.p.ran + 1)] 84)).ownsRow w.heap.size 84 5 (.slice A3 acc.length c3) acc.length (rcC acc)) := Lib.hid (World.ownsRow.alloc (show w4.drew.ownsRow w.heap.size 84 5 (.slice A3 acc.length c3) acc.length (rcC acc) from HOB4.out) _)
            have hal4 := (Below.refl w4.heap.size w4).alloc (Nat.le_refl _) (.cells #[.int .i64 (k : Int), .int .i64 t.cost, .int .i64 t.per, .int .i64 x.p.rel, .int .i64 (x.p.ran + 1)] 84)
            have a0x := (hal4.cell (p := ⟨gm, 0, none⟩) hlm).trans a0
            have t1x := (hal4.cell (p := ⟨tb, to_ + k * 3 + 1, none⟩) (cell_lt t1)).trans t1
            have t2x := (hal4.cell (p := ⟨tb, to_ + k * 3 + 2, none⟩) (cell_lt t2)).trans t2
            have p1x := (hal4.cell (p := ⟨wr.heap.size, 1, none⟩) HP4.out.lt).trans p1
            have p2x := (hal4.cell (p := ⟨wr.heap.size, 2, none⟩) HP4.out.lt).trans p2
            have HIX := Lib.hid (HI4.out.below hal4)
            have HPX := Lib.hid (HP4.out.below hal4)
            clear hal4 HI4 HP4 HBB4 HOB4
            go_wp2_with fail
            go_region_held3 (fun V => V.cell? ⟨gm, 0, none⟩ = some (.slice (some ⟨tb, to_, none⟩) X.ts.length X.c) ∧ V.cell? ⟨tb, to_ + k * 3 + 1, none⟩ = some (.int .i64 t.cost) ∧ V.cell? ⟨tb, to_ + k * 3 + 2, none⟩ = some (.int .i64 t.per) ∧ V.cell? ⟨wr.heap.size, 1, none⟩ = some (.int .i64 x.p.rel) ∧ V.cell? ⟨wr.heap.size, 2, none⟩ = some (.int .i64 x.p.ran)) (first | exact ⟨a0, t1, t2, p1, p2⟩ | exact ⟨a0x, t1x, t2x, p1x, p2x⟩ | exact ⟨a08, t18, t28, p18, p28⟩) (first | (refine step_append_lies _ (by rfl) _ _ 80 (by rfl) w.heap.size 84 i2 (.agg #[.int .i64 0, .int .i64 0, .int .i64 0, .int .i64 0, .int .i64 0]) 5 40 Try.underlying80 L0.out L1.out L2.out L3.out (by rfl) (by decide) _ _ _ (by rfl) HOX.out ⟨w4.heap.size, 0, none⟩ 1 1 [.int .i64 (k : Int), .int .i64 t.cost, .int .i64 t.per, .int .i64 x.p.rel, .int .i64 (x.p.ran + 1)] (by rfl) (by rfl) (World.news_of_block (cs := #[.int .i64 (k : Int), .int .i64 t.cost, .int .i64 t.per, .int .i64 x.p.rel, .int .i64 (x.p.ran + 1)]) (heap_alloc_new w4.drew _)) (by intro u hu; simp at hu; rcases hu with rfl | rfl | rfl | rfl | rfl <;> rfl) (by decide) (by unfold maxLen; omega) (by omega) (by simp; omega) (w4.heap.size + 1) (by simp) ?_; intro g cap w8 hown8 hg8 hat8 hlt8; have hB8 : Below w.heap.size w w8 := Below.grown HBX.out hg8 (by simp; omega) (fun k hk => (HOX.out.lt k hk).1); obtain ⟨tb', to', hA', a08, _, t18, t28⟩ := HTA.out w8 (HI.out.below hB8); rw [hA] at hA'; injection hA' with hA'; injection hA' with e1 e2; subst e1 e2; have hfe8 : FxT [84] (w4.drew.alloc (.cells #[.int .i64 (k : Int), .int .i64 t.cost, .int .i64 t.per, .int .i64 x.p.rel, .int .i64 (x.p.ran + 1)] 84)) w8 := (FxT.refl _ _).grown hg8 (own_row HOX.out (by simp)); obtain ⟨_, p18, p28, _, _, _⟩ := (Blk.fx (show Blk (w4.drew.alloc (.cells #[.int .i64 (k : Int), .int .i64 t.cost, .int .i64 t.per, .int .i64 x.p.rel, .int .i64 (x.p.ran + 1)] 84)) wr.heap.size _ _ from HPX.out) hfe8 (by decide)).six))
            all_goals
              have HB8 := Lib.hid hB8
              have HR8 := Lib.hid (show w8.ownsRow w.heap.size 84 5 (.slice (some ⟨g, 0, none⟩) (acc.length + 1) cap) (acc ++ [(⟨k, t, x.p.rel, x.p.ran + 1⟩ : Cd)]).length (rcC (acc ++ [(⟨k, t, x.p.rel, x.p.ran + 1⟩ : Cd)])) from (by
                rw [rcC_append]
                have h := hown8
                simpa [rcC, rcL] using h))
              clear hown8 hg8 hlt8 hB8 hat8
              go_wp2_with fail
              refine ⟨⟨k + 1, hlt, by simp, ?_, HB8.out⟩, by simp [intOf]; omega⟩
              rw [HSA.out]
              exact HR8.out
          · have d1 : decide (x.p.rel + wR ≤ (m.slot : Int)) = false := decide_eq_false hd
            have HSA := Lib.hid (show AU.overI (k + 1) F = acc by rw [HSN.out, HFK.out, d1]; simp)
            clear hd HFK HSN HW
            go_wp2_with fail
            go_quiet (fail)
            go_wp2_with fail
            refine ⟨⟨k + 1, hlt, by simp, ?_, ?_⟩, by simp [intOf]; omega⟩
            · rw [HSA.out]; exact HOB3.out
            · exact below_drewN HBB3.out _
        · have dg : decide (t.cost ≤ x.p.ran) = true := decide_eq_true (by omega)
          have HRC := Lib.hid (show decide (x.p.ran < t.cost) = false from decide_eq_false hrc)
          clear hrc
          have HSA := Lib.hid (show AU.overI (k + 1) F = acc by rw [HSN.out, HFK.out, HRC.out]; simp)
          clear HFK HSN HI1 HP1
          go_quiet (fail)
          go_wp2_with fail
          refine ⟨⟨k + 1, hlt, by simp, ?_, ?_⟩, by simp [intOf]; omega⟩
          · rw [HSA.out]; exact HOA.out
          · exact below_drewN HBA.out _
    · have q0 : ¬ (k : Int) < (X.ts.length : Int) := by omega
      have hke : k = X.ts.length := by omega
      subst hke
      have hac2 : acc = cd := by rw [← HAC.out, HCL.out]
      subst hac2
      obtain ⟨_, a1, _, _, _, _, _⟩ := hI2.cells
      have HSS := Lib.hid (rselect_any acc A3 c3 X.n wr (rowT_own HO.out).row (own_cap HO.out) HCD.out.1 HCD.out.2 (by omega))
      have hs0 := hbw.size
      clear hown hbw hI2 HCL HAC HF HO
      go_wp2_with fail
      refine HSS.out.mono ?_
      rintro e w2 ⟨v, rfl, hos, hb2⟩
      obtain ⟨As, cs, rfl⟩ := own_form hos
      generalize hCH : AU.selN X.n acc = CH at *
      have hb2w := HB.out.trans (hb2.mono hs0)
      have HB2 := Lib.hid hb2w
      have HOS := Lib.hid hos
      have hchl : CH.length = ch.length := by rw [HSEL.out, List.length_map]
      have HCN := Lib.hid (show ∀ (k : Nat) (c : Cd), CH[k]? = some c → ch[k]? = some c.num from fun k c h => by rw [HSEL.out, List.getElem?_map, h]; rfl)
      have hs2 := hb2w.size
      clear hos hb2 hb2w HSS HSEL HCD HB a0 a1 a2 hlm hCH
      have hchl4 : ch.length ≤ 4 := by omega
      go_wp2_with fail
      generalize hW2 : w2.heap.size = b2 at *
      go_loopw [12, 13] (fun v i wx => ∃ k : Nat, k ≤ CH.length ∧ i = .int .i64 (k : Int) ∧ wx.ownsRow b2 3 1 v k ((AU.befL m.ps m.slot (ch.take k)).map (Value.int .i64)) ∧ Below w2.heap.size w2 wx) (fun _ i _ => CH.length - (intOf i).toNat)
      case atStart => exact ⟨0, Nat.zero_le _, rfl, World.ownsRow_nil _ _ _ _, Below.refl _ _⟩
      case round =>
        obtain ⟨k, hk, rfl, hown, hbw⟩ := hrel
        obtain ⟨A5, c5, rfl⟩ := own_form hown
        have HO := Lib.hid hown
        have HB := Lib.hid hbw
        have hsw := hbw.size
        rw [hW2] at hsw
        have hI3 := HI.out.below (HB2.out.trans (hbw.mono (by rw [hW2]; exact hs2)))
        by_cases hlt : k < CH.length
        · have q0 : (k : Int) < (CH.length : Int) := by omega
          obtain ⟨c, hc⟩ : ∃ c, CH[k]? = some c := ⟨_, List.getElem?_eq_getElem hlt⟩
          have hci := HCN.out k c hc
          obtain ⟨t, p, ht, hp⟩ := HSM.out c.num (List.mem_of_getElem? hci)
          have hit : c.num < X.ts.length := (List.getElem?_eq_some_iff.1 ht).1
          have qi : (c.num : Int) < (X.ts.length : Int) := by omega
          obtain ⟨b1, b2', b3, b4, b5, b6, b7⟩ := HOK.out c.num t p ht hp
          have htk : ch.take (k + 1) = ch.take k ++ [c.num] := by
            obtain ⟨h1, h2⟩ := List.getElem?_eq_some_iff.1 hci
            rw [List.take_succ_eq_append_getElem h1, h2]
          have hbf : AU.befL m.ps m.slot (ch.take (k + 1)) = AU.befL m.ps m.slot (ch.take k) ++ [(AU.fixed m.ps m.slot c.num).getD (-1)] := by
            unfold AU.befL
            rw [htk, List.map_append]
            rfl
          have hfx : AU.fixed m.ps m.slot c.num = if AU.keeps p m.slot then some p.core else none := by unfold AU.fixed; rw [hp]
          have hkp : AU.keeps p m.slot = (decide (0 < p.ran) && decide (p.last = (m.slot : Int) - 1)) := rfl
          rw [hkp] at hfx
          obtain ⟨gb, go, rfl, hgb, x0, _, _, _, _⟩ := rc_at ((rowT_own HOS.out).row.below hbw) hc
          obtain ⟨js, hal, hbj⟩ := hI3.bj
          obtain ⟨x, hxk, hxp, hxs⟩ := hal.at hp
          obtain ⟨c0, c1, c2, c3', c4, c5'⟩ := jr_cells hbj hxk
          subst hxp
          obtain ⟨_, _, a2, _, _, _, hlm⟩ := hI3.cells
          have hlj := hbj.lt
          have z1 : IntKind.i64.wrap ((m.slot : Int) - 1) = (m.slot : Int) - 1 := IntWalk.i64_in _ (by omega)
          have HBF := Lib.hid hbf
          have HFX := Lib.hid hfx
          have HXS := Lib.hid hxs
          have HI3 := Lib.hid hI3
          clear hown hbw hI3 hc hci ht hp htk hbf hfx hkp hal hbj hxk hxs
          go_wp2_with fail
          go_region
          clear a2 c0 c1 c2 c3' c4 c5' x0 hlm hlj hgb
          have HI4 := Lib.hid (HI3.out.below ((Gr.refl wr).alloc (.cells #[.int .i64 (x.p.jobs : Int), .int .i64 x.p.rel, .int .i64 x.p.ran, .int .i64 x.la, .int .i64 x.co, .bool x.p.live] 73)).drew.1)
          have HP4 : Hid (Blk (wr.alloc (.cells #[.int .i64 (x.p.jobs : Int), .int .i64 x.p.rel, .int .i64 x.p.ran, .int .i64 x.la, .int .i64 x.co, .bool x.p.live] 73)).drew wr.heap.size 73 #[.int .i64 (x.p.jobs : Int), .int .i64 x.p.rel, .int .i64 x.p.ran, .int .i64 x.la, .int .i64 x.co, .bool x.p.live]) := Lib.hid ((Blk.new wr _ _).drewN 1)
          have HO4 : Hid ((wr.alloc (.cells #[.int .i64 (x.p.jobs : Int), .int .i64 x.p.rel, .int .i64 x.p.ran, .int .i64 x.la, .int .i64 x.co, .bool x.p.live] 73)).drew.ownsRow b2 3 1 (.slice A5 k c5) k ((AU.befL m.ps m.slot (ch.take k)).map (Value.int .i64))) := Lib.hid (HO.out.alloc _)
          have HB4 : Hid (Below w2.heap.size w2 (wr.alloc (.cells #[.int .i64 (x.p.jobs : Int), .int .i64 x.p.rel, .int .i64 x.p.ran, .int .i64 x.la, .int .i64 x.co, .bool x.p.live] 73)).drew) := Lib.hid ((HB.out.alloc (by rw [hW2]; exact hsw) _).drew)
          have hs4 : b2 ≤ (wr.alloc (.cells #[.int .i64 (x.p.jobs : Int), .int .i64 x.p.rel, .int .i64 x.p.ran, .int .i64 x.la, .int .i64 x.co, .bool x.p.live] 73)).drew.heap.size := by have := HB4.out.size; rw [hW2] at this; exact this
          clear HI3 HO HB hsw
          go_wp2_with fail
          generalize (wr.alloc (.cells #[.int .i64 (x.p.jobs : Int), .int .i64 x.p.rel, .int .i64 x.p.ran, .int .i64 x.la, .int .i64 x.co, .bool x.p.live] 73)).drew = w4 at *
          obtain ⟨_, _, _, a3, _, _, _⟩ := HI4.out.cells
          obtain ⟨p0, p1, p2, p3, p4, p5⟩ := HP4.out.six
          by_cases h0 : 0 < x.p.ran
          · have d0 : decide (0 < x.p.ran) = true := decide_eq_true h0
            obtain ⟨hla, hco⟩ := HXS.out h0
            by_cases h1 : x.la = (m.slot : Int) - 1
            · have d1 : (x.la == (m.slot : Int) - 1) = true := by simp [h1]
              have HBV := Lib.hid (show AU.befL m.ps m.slot (ch.take (k + 1)) = AU.befL m.ps m.slot (ch.take k) ++ [x.co] by rw [HBF.out, HFX.out, d0, decide_eq_true (show x.p.last = (m.slot : Int) - 1 by rw [← hla]; exact h1), hco]; rfl)
              clear h0 h1 hla hco HFX HBF HXS
              go_quiet (fail)
              have HO5 : Hid ((w4.drewN nq).ownsRow b2 3 1 (.slice A5 k c5) k ((AU.befL m.ps m.slot (ch.take k)).map (Value.int .i64))) := Lib.hid HO4.out
              have HB5 := Lib.hid (below_drewN HB4.out nq)
              have hs5 : b2 ≤ (w4.drewN nq).heap.size := hs4
              obtain ⟨_, _, _, _, p4', _⟩ := (HP4.out.drewN nq).six
              clear p0 p1 p2 p3 p4 p5 a3 HI4 HP4 HO4 HB4 hs4
              generalize w4.drewN nq = w5 at *
              go_wp2_with (at_builtin; refine wpList_append_own _ rfl _ _ 37 rfl b2 3 i3 (.int .i64 0) 1 8 Try.underlying37 M0.out M1.out M2.out M3.out rfl (by decide) _ _ _ rfl (HO5.out.alloc _) ⟨w5.heap.size, 0, none⟩ 1 1 [.int .i64 x.co] rfl rfl ?c1 ?c2 ?c3 ?c4 ?c5 ?_)
              case c1 => exact World.news_of_block (cs := #[.int .i64 x.co]) (heap_alloc_new w5 _)
              case c2 => intro u hu; simp at hu; subst hu; rfl
              case c3 => unfold maxLen; omega
              case c4 => omega
              case c5 => simp; omega
              intro v' w7 hown7 hg7 _
              have hoA := HO5.out.alloc (.cells #[.int .i64 x.co] 3)
              have HB7 := Lib.hid (show Below w2.heap.size w2 w7 from Below.grown (HB5.out.alloc (by rw [hW2]; exact hs5) (.cells #[.int .i64 x.co] 3)) hg7 (by rw [hW2]; simp; omega) (fun k hk => by rw [hW2]; exact (hoA.lt k hk).1))
              have HR7 := Lib.hid (show w7.ownsRow b2 3 1 v' (k + 1) ((AU.befL m.ps m.slot (ch.take (k + 1))).map (Value.int .i64)) from (by
                rw [HBV.out]
                have h := hown7
                simpa using h))
              clear hown7 hg7 hoA p4'
              go_wp2_with fail
              exact ⟨⟨k + 1, hlt, by simp, HR7.out, HB7.out⟩, by simp [intOf]; omega⟩
            · have d1 : (x.la == (m.slot : Int) - 1) = false := by simp [h1]
              have HBV := Lib.hid (show AU.befL m.ps m.slot (ch.take (k + 1)) = AU.befL m.ps m.slot (ch.take k) ++ [-1] by rw [HBF.out, HFX.out, d0, decide_eq_false (show ¬ x.p.last = (m.slot : Int) - 1 by rw [← hla]; exact h1)]; rfl)
              clear h0 h1 hla hco HFX HBF HXS
              go_quiet (fail)
              have HO5 : Hid ((w4.drewN nq).ownsRow b2 3 1 (.slice A5 k c5) k ((AU.befL m.ps m.slot (ch.take k)).map (Value.int .i64))) := Lib.hid HO4.out
              have HB5 := Lib.hid (below_drewN HB4.out nq)
              have hs5 : b2 ≤ (w4.drewN nq).heap.size := hs4
              obtain ⟨_, _, _, _, p4', _⟩ := (HP4.out.drewN nq).six
              clear p0 p1 p2 p3 p4 p5 a3 HI4 HP4 HO4 HB4 hs4
              generalize w4.drewN nq = w5 at *
              go_wp2_with (at_builtin; refine wpList_append_own _ rfl _ _ 37 rfl b2 3 i3 (.int .i64 0) 1 8 Try.underlying37 M0.out M1.out M2.out M3.out rfl (by decide) _ _ _ rfl (HO5.out.alloc _) ⟨w5.heap.size, 0, none⟩ 1 1 [.int .i64 (-1)] rfl rfl ?d1 ?d2 ?d3 ?d4 ?d5 ?_)
              case d1 => exact World.news_of_block (cs := #[.int .i64 (-1)]) (heap_alloc_new w5 _)
              case d2 => intro u hu; simp at hu; subst hu; rfl
              case d3 => unfold maxLen; omega
              case d4 => omega
              case d5 => simp; omega
              intro v' w7 hown7 hg7 _
              have hoA := HO5.out.alloc (.cells #[.int .i64 (-1)] 3)
              have HB7 := Lib.hid (show Below w2.heap.size w2 w7 from Below.grown (HB5.out.alloc (by rw [hW2]; exact hs5) (.cells #[.int .i64 (-1)] 3)) hg7 (by rw [hW2]; simp; omega) (fun k hk => by rw [hW2]; exact (hoA.lt k hk).1))
              have HR7 := Lib.hid (show w7.ownsRow b2 3 1 v' (k + 1) ((AU.befL m.ps m.slot (ch.take (k + 1))).map (Value.int .i64)) from (by
                rw [HBV.out]
                have h := hown7
                simpa using h))
              clear hown7 hg7 hoA p4'
              go_wp2_with fail
              exact ⟨⟨k + 1, hlt, by simp, HR7.out, HB7.out⟩, by simp [intOf]; omega⟩
          · have d0 : decide (0 < x.p.ran) = false := decide_eq_false h0
            have HBV := Lib.hid (show AU.befL m.ps m.slot (ch.take (k + 1)) = AU.befL m.ps m.slot (ch.take k) ++ [-1] by rw [HBF.out, HFX.out, d0]; rfl)
            clear h0 HFX HBF HXS
            go_quiet (fail)
            have HO5 : Hid ((w4.drewN nq).ownsRow b2 3 1 (.slice A5 k c5) k ((AU.befL m.ps m.slot (ch.take k)).map (Value.int .i64))) := Lib.hid HO4.out
            have HB5 := Lib.hid (below_drewN HB4.out nq)
            have hs5 : b2 ≤ (w4.drewN nq).heap.size := hs4
            obtain ⟨_, _, _, _, p4', _⟩ := (HP4.out.drewN nq).six
            clear p0 p1 p2 p3 p4 p5 a3 HI4 HP4 HO4 HB4 hs4
            generalize w4.drewN nq = w5 at *
            go_wp2_with (at_builtin; refine wpList_append_own _ rfl _ _ 37 rfl b2 3 i3 (.int .i64 0) 1 8 Try.underlying37 M0.out M1.out M2.out M3.out rfl (by decide) _ _ _ rfl (HO5.out.alloc _) ⟨w5.heap.size, 0, none⟩ 1 1 [.int .i64 (-1)] rfl rfl ?e1 ?e2 ?e3 ?e4 ?e5 ?_)
            case e1 => exact World.news_of_block (cs := #[.int .i64 (-1)]) (heap_alloc_new w5 _)
            case e2 => intro u hu; simp at hu; subst hu; rfl
            case e3 => unfold maxLen; omega
            case e4 => omega
            case e5 => simp; omega
            intro v' w7 hown7 hg7 _
            have hoA := HO5.out.alloc (.cells #[.int .i64 (-1)] 3)
            have HB7 := Lib.hid (show Below w2.heap.size w2 w7 from Below.grown (HB5.out.alloc (by rw [hW2]; exact hs5) (.cells #[.int .i64 (-1)] 3)) hg7 (by rw [hW2]; simp; omega) (fun k hk => by rw [hW2]; exact (hoA.lt k hk).1))
            have HR7 := Lib.hid (show w7.ownsRow b2 3 1 v' (k + 1) ((AU.befL m.ps m.slot (ch.take (k + 1))).map (Value.int .i64)) from (by
              rw [HBV.out]
              have h := hown7
              simpa using h))
            clear hown7 hg7 hoA p4'
            go_wp2_with fail
            exact ⟨⟨k + 1, hlt, by simp, HR7.out, HB7.out⟩, by simp [intOf]; omega⟩
        · have q0 : ¬ (k : Int) < (ch.length : Int) := by omega
          have hke : k = ch.length := by omega
          subst hke
          have hbl2 : (AU.befL m.ps m.slot ch).length = ch.length := by unfold AU.befL; rw [List.length_map]
          have hown2 := HO.out
          rw [List.take_of_length_le (by omega)] at hown2
          have hco := rcores_any (AU.befL m.ps m.slot ch) A5 c5 X.n wr (rowT_own hown2).row HBL.out (by omega) (by omega)
          rw [hbl2, HCR.out] at hco
          have HCO := Lib.hid hco
          obtain ⟨_, a1, _, _, _, _, hlm⟩ := hI3.cells
          clear hown hbw hown2 hco hbl2 HCR HBL HO
          go_wp2_with fail
          refine HCO.out.mono ?_
          rintro e w3 ⟨gc, rfl, hgc, _, hb3⟩
          have HGC := Lib.hid hgc
          have HI4 := Lib.hid (hI3.below hb3)
          have hcw := (HB.out.trans (hb3.mono (by rw [hW2]; exact hsw)))
          have HOS3 := Lib.hid (own_below HOS.out (show Below w2.heap.size w2 w3 from hcw))
          have hw3 := HB2.out.trans (hcw.mono (by rw [hW2]; exact hs2))
          have HW3 := Lib.hid hw3
          have hs3 := hw3.size
          obtain ⟨PF, hPF⟩ : ∃ PF : Nat → List Rq, PF = fun c => AU.overI R.length (AU.pickG R c) := ⟨_, rfl⟩
          have HPF := Lib.hid (show ∀ c, PF c = AU.overI ch.length (AU.pickG R c) from fun c => by rw [hPF, HRL.out])
          have HPL := Lib.hid (AU.pre_len PF 4 (fun c => by rw [HPF.out]; have := AU.overI_len ch.length (AU.pickG R c); omega))
          have HPE := Lib.hid (show AU.preL PF X.n = (List.range X.n).flatMap fun c => AU.overI R.length (AU.pickG R c) from by rw [hPF]; rfl)
          clear hgc hb3 hI3 hcw hw3 HCO HB HOS HB2 hs2 hsw a1 hlm hPF
          go_wp2_with fail
          generalize hW3 : w3.heap.size = b3 at *
          go_loopw [3, 17] (fun v i wx => ∃ c : Nat, c ≤ X.n ∧ i = .int .i64 (c : Int) ∧ wx.ownsRow b3 54 6 v (AU.preL PF c).length (reC m.slot 2 (AU.preL PF c)) ∧ Below w3.heap.size w3 wx) (fun _ i _ => X.n - (intOf i).toNat)
          case atStart => exact ⟨0, Nat.zero_le _, rfl, World.ownsRow_nil _ _ _ _, Below.refl _ _⟩
          case round =>
            obtain ⟨c, hc, rfl, hownc, hbwc⟩ := hrel
            obtain ⟨A9, c9, rfl⟩ := own_form hownc
            obtain ⟨wo, hwo⟩ : ∃ wo, wo = wr := ⟨_, rfl⟩
            rw [← hwo] at hownc hbwc ⊢
            clear hwo
            have HOC := Lib.hid hownc
            have HBC := Lib.hid hbwc
            have hI9 := HI4.out.below hbwc
            obtain ⟨_, a1, _, _, _, _, hlm⟩ := hI9.cells
            have hplc := HPL.out c
            have HPS := Lib.hid (AU.pre_succ PF c)
            generalize hpc : AU.preL PF c = pc at *
            have HPC := Lib.hid hpc
            by_cases hcn : c < X.n
            · have q9 : (c : Int) < (X.n : Int) := by omega
              clear hownc hbwc hI9 hpc
              go_wp2_with fail
              clear a1 hlm
              have HEC := Lib.hid (HPF.out c)
              obtain ⟨G, hG⟩ : ∃ G, G = AU.pickG R c := ⟨_, rfl⟩
              rw [← hG] at HEC
              have HG := Lib.hid hG
              clear hG
              go_loopw [3, 18] (fun v i wx => ∃ k : Nat, k ≤ ch.length ∧ i = .int .i64 (k : Int) ∧ wx.ownsRow b3 54 6 v (pc ++ AU.overI k G).length (reC m.slot 2 (pc ++ AU.overI k G)) ∧ Below w3.heap.size w3 wx) (fun _ i _ => ch.length - (intOf i).toNat)
              case atStart => exact ⟨0, Nat.zero_le _, rfl, by rw [AU.overI_zero, List.append_nil]; exact HOC.out, HBC.out⟩
              case round =>
                obtain ⟨k, hk, rfl, hown, hbw⟩ := hrel
                obtain ⟨A3, c3, rfl⟩ := own_form hown
                have HO := Lib.hid hown
                have HB := Lib.hid hbw
                have hsw := hbw.size
                rw [hW3] at hsw
                have HS : pc ++ AU.overI (k + 1) G = (pc ++ AU.overI k G) ++ (G k).toList := by rw [AU.overI_succ, List.append_assoc]
                have hln : (pc ++ AU.overI k G).length ≤ 1000 := by
                  rw [List.length_append]
                  have h1 := AU.overI_len k G
                  have h2 : c * 4 ≤ 4 * 4 := Nat.mul_le_mul_right _ (by omega)
                  omega
                generalize hacc : pc ++ AU.overI k G = acc at *
                have HAC := Lib.hid hacc
                clear hacc
                have HSN := Lib.hid HS
                clear HS
                by_cases hlt : k < ch.length
                · have q0 : (k : Int) < (ch.length : Int) := by omega
                  obtain ⟨d, hd⟩ : ∃ d, CH[k]? = some d := ⟨_, List.getElem?_eq_getElem (by omega)⟩
                  have hci := HCN.out k d hd
                  obtain ⟨cr, hcr⟩ := HRA.out k d.num hci
                  have y0 := ((HGC.out.below hbw).cell k).trans (isC_at (show (R.map (·.core))[k]? = some cr by rw [List.getElem?_map, hcr]; simp [AU.mkR_core]))
                  have hgl := (HGC.out.below hbw).lt
                  have hGk : G k = if cr == (c : Int) then some (AU.mkR m.ps cr d.num) else none := by
                    rw [HG.out]
                    unfold AU.pickG
                    rw [hcr]
                    simp only [AU.mkR_core]
                  by_cases he : cr = (c : Int)
                  · have f0 : (cr == (c : Int)) = true := by simp [he]
                    obtain ⟨t, p, ht, hp⟩ := HSM.out d.num (List.mem_of_getElem? hci)
                    have hit : d.num < X.ts.length := (List.getElem?_eq_some_iff.1 ht).1
                    have qi : (d.num : Int) < (X.ts.length : Int) := by omega
                    obtain ⟨b1, b2', b3', b4, b5, b6, b7⟩ := HOK.out d.num t p ht hp
                    obtain ⟨v1, v2, v3⟩ := SL.okTk_iff.1 (HX.out.ok t (List.mem_of_getElem? ht))
                    have hI5 := HI4.out.below hbw
                    obtain ⟨js, hal, hbj3⟩ := HI4.out.bj
                    have hbj := hbj3.below hbw
                    obtain ⟨x, hxk, hxp, _⟩ := hal.at hp
                    obtain ⟨c0, _, c2, _, _, _⟩ := jr_cells hbj hxk
                    subst hxp
                    obtain ⟨gb, go, rfl, hgb, x0, _, _, _, _⟩ := rc_at ((rowT_own HOS3.out).row.below hbw) hd
                    obtain ⟨_, _, a2, a3, _, _, hlm⟩ := hI5.cells
                    have hlj := hbj.lt
                    have z1 : IntKind.i64.wrap ((x.p.jobs : Int) - 1) = (x.p.jobs : Int) - 1 := IntWalk.i64_in _ (by omega)
                    have z2 : IntKind.i64.wrap (x.p.ran + 1) = x.p.ran + 1 := IntWalk.i64_in _ (by omega)
                    have HSA := Lib.hid (show pc ++ AU.overI (k + 1) G = acc ++ [(⟨(c : Int), d.num, (x.p.jobs : Int) - 1, x.p.ran + 1⟩ : Rq)] by rw [HSN.out, hGk, f0, he]; unfold AU.mkR; rw [hp]; rfl)
                    have HBX := Lib.hid (HB.out.drew.alloc (show w3.heap.size ≤ wr.drew.heap.size by rw [hW3]; exact hsw) (.cells #[.int .i64 (m.slot : Int), .int .i64 (c : Int), .int .i64 (d.num : Int), .int .i64 ((x.p.jobs : Int) - 1), .int .u8 2, .int .i64 (x.p.ran + 1)] 54))
                    have HOX : Hid ((wr.drew.alloc (.cells #[.int .i64 (m.slot : Int), .int .i64 (c : Int), .int .i64 (d.num : Int), .int .i64 ((x.p.jobs : Int) - 1), .int .u8 2, .int .i64 (x.p.ran + 1)] 54)).ownsRow b3 54 6 (.slice A3 acc.length c3) acc.length (reC m.slot 2 acc)) := Lib.hid (World.ownsRow.alloc (show wr.drew.ownsRow b3 54 6 (.slice A3 acc.length c3) acc.length (reC m.slot 2 acc) from HO.out) _)
                    have hal4 := (Below.refl wr.heap.size wr).alloc (Nat.le_refl _) (.cells #[.int .i64 (m.slot : Int), .int .i64 (c : Int), .int .i64 (d.num : Int), .int .i64 ((x.p.jobs : Int) - 1), .int .u8 2, .int .i64 (x.p.ran + 1)] 54)
                    have a2x := (hal4.cell (p := ⟨gm, 2, none⟩) hlm).trans a2
                    have a3x := (hal4.cell (p := ⟨gm, 3, none⟩) hlm).trans a3
                    have c0x := (hal4.cell (p := ⟨gj, d.num * 6, none⟩) hlj).trans c0
                    have c2x := (hal4.cell (p := ⟨gj, d.num * 6 + 2, none⟩) hlj).trans c2
                    have HHH := Lib.hid (show ∀ W, Below w3.heap.size w3 W → W.cell? ⟨gm, 2, none⟩ = some (.slice (some ⟨gj, 0, none⟩) X.ts.length X.ts.length) ∧ W.cell? ⟨gm, 3, none⟩ = some (.int .i64 (m.slot : Int)) ∧ W.cell? ⟨gj, d.num * 6, none⟩ = some (.int .i64 (x.p.jobs : Int)) ∧ W.cell? ⟨gj, d.num * 6 + 2, none⟩ = some (.int .i64 x.p.ran) from fun W hW => by
                      obtain ⟨e0, _, e2, _, _, _⟩ := jr_cells (hbj3.below hW) hxk
                      obtain ⟨_, _, f2, f3, _, _, _⟩ := (HI4.out.below hW).cells
                      exact ⟨f2, f3, e0, e2⟩)
                    clear hown hbw hd hci hcr hGk ht hp hI5 hal hbj hbj3 hxk hal4 HO HB
                    go_wp2_with fail
                    go_region_held3 (fun V => V.cell? ⟨gm, 2, none⟩ = some (.slice (some ⟨gj, 0, none⟩) X.ts.length X.ts.length) ∧ V.cell? ⟨gm, 3, none⟩ = some (.int .i64 (m.slot : Int)) ∧ V.cell? ⟨gj, d.num * 6, none⟩ = some (.int .i64 (x.p.jobs : Int)) ∧ V.cell? ⟨gj, d.num * 6 + 2, none⟩ = some (.int .i64 x.p.ran)) (first | exact ⟨a2, a3, c0, c2⟩ | exact ⟨a2x, a3x, c0x, c2x⟩ | exact hh8) (first | (refine step_append_lies _ (by rfl) _ _ 32 (by rfl) b3 54 i1 (.agg #[.int .i64 0, .int .i64 0, .int .i64 0, .int .i64 0, .int .u8 0, .int .i64 0]) 6 48 Try.underlying32 K0.out K1.out K2.out K3.out (by rfl) (by decide) _ _ _ (by rfl) HOX.out ⟨wr.heap.size, 0, none⟩ 1 1 [.int .i64 (m.slot : Int), .int .i64 (c : Int), .int .i64 (d.num : Int), .int .i64 ((x.p.jobs : Int) - 1), .int .u8 2, .int .i64 (x.p.ran + 1)] (by rfl) (by rfl) (World.news_of_block (cs := #[.int .i64 (m.slot : Int), .int .i64 (c : Int), .int .i64 (d.num : Int), .int .i64 ((x.p.jobs : Int) - 1), .int .u8 2, .int .i64 (x.p.ran + 1)]) (heap_alloc_new wr.drew _)) (by intro u hu; simp at hu; rcases hu with rfl | rfl | rfl | rfl | rfl | rfl <;> rfl) (by decide) (by unfold maxLen; omega) (by omega) (by simp; omega) (wr.heap.size + 1) (by simp) ?_; intro g cap w8 hown8 hg8 hat8 hlt8; have hB8 : Below w3.heap.size w3 w8 := Below.grown HBX.out hg8 (by rw [hW3]; simp; omega) (fun k hk => by rw [hW3]; exact (HOX.out.lt k hk).1); have hh8 := HHH.out w8 hB8))
                    all_goals
                      have HB8 := Lib.hid hB8
                      have HR8 := Lib.hid (show w8.ownsRow b3 54 6 (.slice (some ⟨g, 0, none⟩) (acc.length + 1) cap) (acc ++ [(⟨(c : Int), d.num, (x.p.jobs : Int) - 1, x.p.ran + 1⟩ : Rq)]).length (reC m.slot 2 (acc ++ [(⟨(c : Int), d.num, (x.p.jobs : Int) - 1, x.p.ran + 1⟩ : Rq)])) from (by
                        rw [reC_snoc]
                        have h := hown8
                        simpa [reL] using h))
                      clear hown8 hg8 hlt8 hB8 hat8
                      go_wp2_with fail
                      refine ⟨⟨k + 1, hlt, by simp, ?_, HB8.out⟩, by simp [intOf]; omega⟩
                      rw [HSA.out]
                      exact HR8.out
                  · have f0 : (cr == (c : Int)) = false := by simp [he]
                    have HSA := Lib.hid (show pc ++ AU.overI (k + 1) G = acc by rw [HSN.out, hGk, f0]; simp)
                    clear hown hbw hd hci hcr hGk he
                    go_wp2_with fail
                    refine ⟨⟨k + 1, hlt, by simp, ?_, HB.out⟩, by simp [intOf]; omega⟩
                    rw [HSA.out]
                    exact HO.out
                · have q0 : ¬ (k : Int) < (ch.length : Int) := by omega
                  have HSA := Lib.hid (show AU.preL PF (c + 1) = acc by rw [HPS.out, HEC.out, ← HAC.out, show k = ch.length from by omega])
                  clear hown hbw
                  go_wp2_with fail
                  refine ⟨⟨c + 1, hcn, by simp, ?_, HB.out⟩, by simp [intOf]; omega⟩
                  rw [HSA.out]
                  exact HO.out
            · have q9 : ¬ (c : Int) < (X.n : Int) := by omega
              have hce : c = X.n := by omega
              subst hce
              clear hownc hbwc hI9 hpc HPF HPL HX HOK HI
              go_wp2_with fail
              go_ret
              rw [← HPE.out, HPC.out]
              have hsum : (List.map (fun a => (AU.overI R.length (AU.pickG R a)).length) (List.range X.n)).sum = pc.length := by rw [← HPC.out, HPE.out, List.length_flatMap]
              rw [hsum]
              exact ⟨_, rfl, own_low HOC.out (by omega), HW3.out.trans (HBC.out.mono (by rw [hW3]; exact hs3))⟩
end
end Go.Proofs.Ytehdgdlndlamjaa
