/- The auditor: the dispatches. -/
import Derived.Test.YtpmbhdheeaejgaaGreatDoorAuG
import Derived.Test.YtpmbhdheeaejgaaGreatDoorAuH
import Derived.Deep.CutRange
import Derived.Laws.MakeOwn
namespace Go.Proofs.YtpmbhdheeaejgaaGreatDoor
open Go.RowKit Go.Maps Go.Sort Go.Lib
open SL (Tk Cd)
open AU (Pr Rq Ev Mo)
theorem FxT.gnew {T : List TypeId} {w w' w'' : World} (h : FxT T w w') {row : Option Nat} (hg : w'.grownBy w'' row) (hr : ∀ k, row = some k → w.heap.size ≤ k) : FxT T w w'' := ⟨Nat.le_trans h.1 hg.size, fun i cs' t' m hi ht' => by
  have h1 := h.2 i cs' t' m hi ht'
  rw [hg.block i (Array.getElem?_eq_some_iff.1 h1).1 (by
    intro e
    have := hr i e.symm
    have := (Array.getElem?_eq_some_iff.1 hi).1
    omega), h1]⟩
theorem AU.fixL_snoc (ps : List Pr) (slot : Nat) (l : List Nat) (i : Nat) : AU.fixL ps slot (l ++ [i]) = AU.fixL ps slot l ++ ((AU.fixed ps slot i).map fun c => AU.mkR ps c i).toList := by
  unfold AU.fixL
  rw [List.filterMap_append]
  cases h : AU.fixed ps slot i <;> simp [h]
theorem AU.othL_snoc (ps : List Pr) (slot : Nat) (l : List Nat) (i : Nat) : AU.othL ps slot (l ++ [i]) = AU.othL ps slot l ++ (if (AU.fixed ps slot i).isNone then [i] else []) := by
  unfold AU.othL
  rw [List.filter_append]
  congr 1
  cases h : (AU.fixed ps slot i).isNone <;> simp [h]
theorem AU.newL_snoc {ps : List Pr} {c i : Nat} : ∀ {fr oth : List Nat}, oth[fr.length]? = some i → AU.newL ps (fr ++ [c]) oth = AU.newL ps fr oth ++ [AU.mkR ps (c : Int) i]
  | [], [], h => by simp at h
  | [], x :: l, h => by simp at h; subst h; simp [AU.newL]
  | _ :: _, [], h => by simp at h
  | a :: fr, x :: oth, h => by
    have ih := AU.newL_snoc (ps := ps) (c := c) (i := i) (fr := fr) (oth := oth) (by simpa using h)
    unfold AU.newL at ih ⊢
    rw [List.cons_append, List.zipWith_cons_cons, List.zipWith_cons_cons, ih]
    rfl
theorem AU.newL_full {ps : List Pr} {c : Nat} : ∀ {fr oth : List Nat}, oth.length ≤ fr.length → AU.newL ps (fr ++ [c]) oth = AU.newL ps fr oth
  | [], [], _ => by simp [AU.newL]
  | [], _ :: _, h => by simp at h
  | _ :: _, [], _ => by simp [AU.newL]
  | a :: fr, x :: oth, h => by
    have ih := AU.newL_full (ps := ps) (c := c) (fr := fr) (oth := oth) (by simpa using h)
    unfold AU.newL at ih ⊢
    rw [List.cons_append, List.zipWith_cons_cons, List.zipWith_cons_cons, ih]
theorem AU.freeL_succ (F : List Rq) (n : Nat) : AU.freeL F (n + 1) = AU.freeL F n ++ (if AU.takenB F n then [] else [n]) := by
  unfold AU.freeL
  rw [List.range_succ, List.filter_append]
  congr 1
  cases h : AU.takenB F n <;> simp [h]
/-- Which cores are taken. -/
def AU.tkC (n : Nat) (F : List Rq) : Array Value := ((List.range n).map fun c => Value.bool (AU.takenB F c)).toArray
theorem AU.tkC_at {n : Nat} {F : List Rq} {c : Nat} (h : c < n) : (AU.tkC n F)[c]? = some (.bool (AU.takenB F c)) := by
  unfold AU.tkC
  simp [h]
theorem AU.tkC_zero (n : Nat) : AU.tkC n [] = madeCells #[.bool false] n := by
  apply Array.ext_getElem?
  intro i
  unfold AU.tkC madeCells
  by_cases h : i < n
  · simp [h, AU.takenB, Nat.mod_one]
  · simp [h]
theorem AU.tkC_set {n c : Nat} {F : List Rq} {r : Rq} (_h : c < n) (hr : r.core = (c : Int)) : (AU.tkC n F).setIfInBounds c (.bool true) = AU.tkC n (F ++ [r]) := by
  apply Array.ext_getElem?
  intro i
  rw [Array.getElem?_setIfInBounds]
  by_cases hi : i < n
  · rw [AU.tkC_at hi]
    by_cases hc : c = i
    · subst hc
      have : AU.takenB (F ++ [r]) c = true := AU.taken_iff.2 ⟨r, by simp, hr⟩
      rw [AU.tkC_at hi, this, if_pos rfl]
      simp [AU.tkC, hi]
    · rw [if_neg hc, AU.tkC_at hi]
      have : AU.takenB (F ++ [r]) i = AU.takenB F i := by
        unfold AU.takenB
        rw [List.any_append]
        have h0 : (r.core == (i : Int)) = false := beq_false_of_ne (by omega)
        simp [h0]
      rw [this]
  · have h1 : ∀ F, (AU.tkC n F)[i]? = none := fun F => by
      unfold AU.tkC
      simp; omega
    rw [h1, h1]
    split
    · simp [AU.tkC]; omega
    · rfl
theorem infoBoolN : (Tryz.prog.info? 4).map (fun i => (i.zero, i.size, i.bytes)) = some (some (.bool false), 1, 1) := by kernel_rfl
/-- Midway through the first loop. -/
structure DRel (w w1 : World) (gt n : Nat) (ps : List Pr) (slot : Nat) (l : List Nat) (lv ov : Value) (wr : World) : Prop where
  be : Below w.heap.size w wr
  fx : FxT [4] w1 wr
  bt : Blk wr gt 4 (AU.tkC n (AU.fixL ps slot l))
  ol : wr.ownsRow w1.heap.size 26 8 lv (AU.fixL ps slot l).length (rqC slot 2 (AU.fixL ps slot l))
  oo : wr.ownsRow w1.heap.size 3 1 ov (AU.othL ps slot l).length (AU.nats (AU.othL ps slot l))
/-- Midway through the second loop. -/
structure D2Rel (w w1 : World) (gt n slot : Nat) (ps : List Pr) (F : List Rq) (O : List Nat) (c : Nat) (lv ov : Value) (wx : World) : Prop where
  be : Below w.heap.size w wx
  sz : w1.heap.size ≤ wx.heap.size
  bt : Blk wx gt 4 (AU.tkC n F)
  ol : wx.ownsRow w1.heap.size 26 8 lv (F ++ AU.newL ps (AU.freeL F c) O).length (rqC slot 2 (F ++ AU.newL ps (AU.freeL F c) O))
  oo : ∃ (A : Option Addr) (c' : Nat), ov = .slice A (O.drop (AU.freeL F c).length).length c' ∧ (O.drop (AU.freeL F c).length).length ≤ c' ∧ RowT wx 3 A (AU.nats (O.drop (AU.freeL F c).length))
theorem AU.freeL_zero (F : List Rq) : AU.freeL F 0 = [] := rfl
section
set_option maxHeartbeats 2000000
set_option maxRecDepth 100000
theorem dispatches_any {B : World} {X : Aud} (hx : AudOk B X) {gm gp : Nat} {m : Mo} {w : World} (hI : AInv B X gm gp m w) (hl : m.ps.length = X.ts.length) (hok : AU.OkPs X.n m.slot 1000000000 X.ts m.ps) (ha : AU.Apart m.ps) (hs : m.slot ≤ 100000) :
    Calls Tryz.prog 45 #[.pointer (some ⟨gm, 0, none⟩)] w fun e w' => ∃ v, e = .returned v ∧ w'.ownsRow w.heap.size 26 8 v (AU.dispL X.ts m.ps m.slot X.n).length (rqC m.slot 2 (AU.dispL X.ts m.ps m.slot X.n)) ∧ Below w.heap.size w w' := by
  have hnot : ∀ (x : Bool) (w : World), (Op.unary .not (.bool x)).run Tryz.prog w = .ok (.bool (!x)) w := fun _ _ => rfl
  obtain ⟨i1, ki, kz0, kz1, kz2⟩ := info_parts infoEv
  have K0 := Lib.hid ki
  have K1 := Lib.hid kz0
  have K2 := Lib.hid kz1
  have K3 := Lib.hid kz2
  obtain ⟨i2, li, lz0, lz1, lz2⟩ := info_parts infoIntN
  have L0 := Lib.hid li
  have L1 := Lib.hid lz0
  have L2 := Lib.hid lz1
  have L3 := Lib.hid lz2
  obtain ⟨i3, bi, bz0, bz1, bz2⟩ := info_parts infoBoolN
  have h40 := hx.len
  have hn4 := hx.n4
  have hmk : ∀ W : World, (Instr.makeSlice 106 (.int .i64 (X.n : Int)) (.int .i64 (X.n : Int))).run Tryz.prog W = .ok (.slice (some ⟨W.heap.size, 0, none⟩) X.n X.n) (W.alloc (.cells (AU.tkC X.n []) 4)) := fun W => by
    have h := run_make (P := Tryz.prog) W 106 4 i3 _ Tryz.underlying106 bi bz0 .i64 .i64 (X.n : Int) (X.n : Int) (by omega) (by omega) (by rw [bz2]; omega) (by omega)
    rw [bz1, Int.toNat_natCast, Nat.mul_one] at h
    rw [AU.tkC_zero]
    exact h
  have HX := Lib.hid hx
  have HI := Lib.hid hI
  have HOK := Lib.hid hok
  have HL := Lib.hid hl
  obtain ⟨a1, _, _, _, _⟩ := hI.cells
  have hbw := (Below.refl w.heap.size w).alloc (Nat.le_refl _) (.cells (AU.tkC X.n []) 4)
  have HSE := Lib.hid (selection_any hx (hI.below hbw) hl hok hs)
  have hsn := AU.sel_nodup X.ts m.ps m.slot X.n
  have hsl := AU.sel_len X.ts m.ps m.slot X.n
  have hsm : ∀ i ∈ AU.sel X.ts m.ps m.slot X.n, ∃ t p, X.ts[i]? = some t ∧ m.ps[i]? = some p := fun i hi => by
    obtain ⟨t, p, g1, g2, _, _⟩ := AU.sel_mem hi
    exact ⟨t, p, g1, g2⟩
  have hcn := AU.asg_cores (slot := m.slot) (n := X.n) ha hsn
  have hrg : ∀ r ∈ AU.asg m.ps m.slot X.n (AU.sel X.ts m.ps m.slot X.n), 0 ≤ r.core ∧ r.core < X.n := by
    intro r hr
    obtain ⟨i, c, h1, rfl, h2⟩ := AU.asg_mem hr
    rw [AU.mkR_core]
    rcases h2 with h2 | h2
    · obtain ⟨p, b1, b2, b3, rfl⟩ := AU.fixed_some h2
      obtain ⟨t, q, d1, d2⟩ := hsm i h1
      exact (hok i t p d1 b1).core b2
    · exact h2
  unfold AU.dispL
  rw [← srtC_eq hcn hrg]
  generalize AU.sel X.ts m.ps m.slot X.n = ch at *
  have HSM := Lib.hid hsm
  have HCN := Lib.hid hcn
  have HB0 := Lib.hid hbw
  have HT0 := Lib.hid (Blk.new w 4 (AU.tkC X.n []))
  clear ki kz0 kz1 kz2 li lz0 lz1 lz2 bi bz0 bz1 bz2 hI hx hok hl ha hsm hcn hrg hbw hsn
  go_enter Tryz.func45, Tryz.ntmps45
  go_wp2_with fail
  refine HSE.out.mono ?_
  rintro e w1 ⟨sv, rfl, hos, hb1⟩
  obtain ⟨As, cs, rfl⟩ := own_form hos
  have HD0 := Lib.hid (show DRel w w1 w.heap.size X.n m.ps m.slot (ch.take 0) (.slice none 0 0) (.slice none 0 0) w1 from
    ⟨HB0.out.trans (hb1.mono HB0.out.size), FxT.refl _ _, HT0.out.below hb1, World.ownsRow_nil _ _ _ _, World.ownsRow_nil _ _ _ _⟩)
  have HCS := Lib.hid (fun (k i : Nat) (hk : ch[k]? = some i) (W : World) (hW : FxT [4] w1 W) => (show ∃ g5, As = some ⟨g5, 0, none⟩ ∧ W.cell? ⟨g5, k, none⟩ = some (.int .i64 (i : Int)) from by
    have h1 := own_fx hos hW (by decide)
    have hpos : 0 < ch.length := by
      have := (List.getElem?_eq_some_iff.1 hk).1
      omega
    obtain ⟨g, cap, hv, _, _, _, hc⟩ := own_cells h1 hpos
    injection hv with hA
    exact ⟨g, hA, hc k _ (by unfold AU.nats; rw [List.getElem?_map, hk]; rfl)⟩))
  have hgw : w.heap.size < w1.heap.size := (HT0.out.below hb1).lt
  clear hos hb1 HSE HB0 HT0 a1
  go_wp2_with fail
  have HW := Lib.hid (rfl : w.heap.size = w.heap.size)
  go_loopw [3, 5, 19] (fun lv ov i wr => ∃ k : Nat, k ≤ ch.length ∧ i = .int .i64 (k : Int) ∧ DRel w w1 w.heap.size X.n m.ps m.slot (ch.take k) lv ov wr) (fun _ _ i _ => ch.length - (intOf i).toNat)
  case atStart => exact ⟨0, Nat.zero_le _, rfl, HD0.out⟩
  case round =>
    obtain ⟨k, hk, rfl, hD⟩ := hrel
    obtain ⟨A3, c3, hlv⟩ := own_form hD.ol
    obtain ⟨A5, c5, hov⟩ := own_form hD.oo
    subst hlv hov
    have HD := Lib.hid hD
    by_cases hlt : k < ch.length
    · have q0 : (k : Int) < (ch.length : Int) := by omega
      obtain ⟨i, hi⟩ : ∃ i, ch[k]? = some i := ⟨_, List.getElem?_eq_getElem hlt⟩
      obtain ⟨t, p, ht, hp⟩ := HSM.out i (List.mem_of_getElem? hi)
      have hit : i < X.ts.length := (List.getElem?_eq_some_iff.1 ht).1
      have qi : (i : Int) < (X.ts.length : Int) := by omega
      obtain ⟨g5, rfl, x0⟩ := HCS.out k i hi wr hD.fx
      obtain ⟨b1, b2, b3, b4, b5, b6, b7⟩ := HOK.out i t p ht hp
      have hvt := HX.out.ok t (List.mem_of_getElem? ht)
      obtain ⟨v1, v2, v3⟩ := SL.okTk_iff.1 hvt
      have hI2 := HI.out.below hD.be
      obtain ⟨_, a2, _, _, _⟩ := hI2.cells
      obtain ⟨c0, c1, c2, c3', c4, c5'⟩ := pr_cells hI2.bp hp
      have hba := ((Gr.refl wr).alloc (.cells #[.int .i64 (p.jobs : Int), .bool p.live, .int .i64 p.rel, .int .i64 p.ran, .int .i64 p.last, .int .i64 p.core] 93)).1
      have hI3 := hI2.below hba
      have HI3 := Lib.hid hI3
      obtain ⟨_, _, a3, _, _⟩ := hI3.cells
      have HP3 := Lib.hid (Blk.new wr 93 #[.int .i64 (p.jobs : Int), .bool p.live, .int .i64 p.rel, .int .i64 p.ran, .int .i64 p.last, .int .i64 p.core])
      obtain ⟨p0, p1, p2, p3, p4, p5⟩ := (Blk.new wr 93 #[.int .i64 (p.jobs : Int), .bool p.live, .int .i64 p.rel, .int .i64 p.ran, .int .i64 p.last, .int .i64 p.core]).six
      have z1 : IntKind.i64.wrap ((m.slot : Int) - 1) = (m.slot : Int) - 1 := IntWalk.i64_in _ (by omega)
      have z2 : IntKind.i64.wrap (p.ran + 1) = p.ran + 1 := IntWalk.i64_in _ (by omega)
      have hfx : AU.fixed m.ps m.slot i = if AU.keeps p m.slot then some p.core else none := by unfold AU.fixed; rw [hp]
      have hkp : AU.keeps p m.slot = (decide (0 < p.ran) && decide (p.last = (m.slot : Int) - 1)) := rfl
      rw [hkp] at hfx
      have HTK := Lib.hid (show ch.take (k + 1) = ch.take k ++ [i] from by
        obtain ⟨h1, h2⟩ := List.getElem?_eq_some_iff.1 hi
        rw [List.take_succ_eq_append_getElem h1, h2])
      have hmk : ∀ c, AU.mkR m.ps c i = ⟨c, i, (p.jobs : Int) - 1, p.ran + 1⟩ := fun c => by unfold AU.mkR; rw [hp]
      have HMK := Lib.hid hmk
      have HFX := Lib.hid hfx
      have HPP := Lib.hid hp
      have hfl : (AU.fixL m.ps m.slot (ch.take k)).length ≤ 4 := Nat.le_trans (List.length_filterMap_le _ _) (by simp; omega)
      have hol : (AU.othL m.ps m.slot (ch.take k)).length ≤ 4 := Nat.le_trans (List.length_filter_le _ _) (by simp; omega)
      clear hD hI2 hI3 hba hfx hkp hmk hp ht hi hlt
      have hk1 : k + 1 ≤ ch.length := by omega
      go_upto_region 8 with fail
      clear c0 c1 c2 c3' c4 c5' a2 x0
      by_cases h0 : 0 < p.ran
      · have d0 : decide (0 < p.ran) = true := decide_eq_true h0
        by_cases h1 : p.last = (m.slot : Int) - 1
        · have d1 : (p.last == (m.slot : Int) - 1) = true := by simp [h1]
          have HNN := Lib.hid (show AU.fixed m.ps m.slot i = some p.core by rw [HFX.out, d0, decide_eq_true h1]; rfl)
          have hcr := b7 h0
          obtain ⟨cc, hcc⟩ : ∃ cc : Nat, p.core = (cc : Int) := ⟨p.core.toNat, by omega⟩
          have HCC := Lib.hid hcc
          clear HFX h0 h1 hcc
          go_quiet (fail)
          have HF1 := Lib.hid (show AU.fixL m.ps m.slot (ch.take (k + 1)) = AU.fixL m.ps m.slot (ch.take k) ++ [(⟨p.core, i, (p.jobs : Int) - 1, p.ran + 1⟩ : Rq)] by rw [HTK.out, AU.fixL_snoc, HNN.out]; simp [HMK.out])
          have HO1 := Lib.hid (show AU.othL m.ps m.slot (ch.take (k + 1)) = AU.othL m.ps m.slot (ch.take k) by rw [HTK.out, AU.othL_snoc, HNN.out]; simp)
          have HOW : Hid (((wr.alloc (.cells #[.int .i64 (p.jobs : Int), .bool p.live, .int .i64 p.rel, .int .i64 p.ran, .int .i64 p.last, .int .i64 p.core] 93)).drewN nq).ownsRow w1.heap.size 3 1 (.slice A5 (AU.othL m.ps m.slot (ch.take k)).length c5) (AU.othL m.ps m.slot (ch.take k)).length (AU.nats (AU.othL m.ps m.slot (ch.take k)))) := Lib.hid (HD.out.oo.alloc _)
          have HFW : Hid (FxT [4] w1 ((wr.alloc (.cells #[.int .i64 (p.jobs : Int), .bool p.live, .int .i64 p.rel, .int .i64 p.ran, .int .i64 p.last, .int .i64 p.core] 93)).drewN nq)) := Lib.hid ((HD.out.fx.alloc _).drewN nq)
          have HBW : Hid (Below w.heap.size w ((wr.alloc (.cells #[.int .i64 (p.jobs : Int), .bool p.live, .int .i64 p.rel, .int .i64 p.ran, .int .i64 p.last, .int .i64 p.core] 93)).drewN nq)) := Lib.hid (below_drewN (HD.out.be.alloc HD.out.be.size _) nq)
          have HTW : Hid (Blk ((wr.alloc (.cells #[.int .i64 (p.jobs : Int), .bool p.live, .int .i64 p.rel, .int .i64 p.ran, .int .i64 p.last, .int .i64 p.core] 93)).drewN nq) w.heap.size 4 (AU.tkC X.n (AU.fixL m.ps m.slot (ch.take k)))) := Lib.hid ((HD.out.bt.alloc _).drewN nq)
          have HEW : Hid (((wr.alloc (.cells #[.int .i64 (p.jobs : Int), .bool p.live, .int .i64 p.rel, .int .i64 p.ran, .int .i64 p.last, .int .i64 p.core] 93)).drewN nq).ownsRow w1.heap.size 26 8 (.slice A3 (AU.fixL m.ps m.slot (ch.take k)).length c3) (AU.fixL m.ps m.slot (ch.take k)).length (rqC m.slot 2 (AU.fixL m.ps m.slot (ch.take k)))) := Lib.hid (HD.out.ol.alloc _)
          have HPW : Hid (Blk ((wr.alloc (.cells #[.int .i64 (p.jobs : Int), .bool p.live, .int .i64 p.rel, .int .i64 p.ran, .int .i64 p.last, .int .i64 p.core] 93)).drewN nq) wr.heap.size 93 #[.int .i64 (p.jobs : Int), .bool p.live, .int .i64 p.rel, .int .i64 p.ran, .int .i64 p.last, .int .i64 p.core]) := Lib.hid (HP3.out.drewN nq)
          clear HNN HTK HMK HI3 HD HP3 p0 p1 p2 p3 p4 p5 a3
          generalize (wr.alloc (.cells #[.int .i64 (p.jobs : Int), .bool p.live, .int .i64 p.rel, .int .i64 p.ran, .int .i64 p.last, .int .i64 p.core] 93)).drewN nq = w2 at *
          have hcc2 : cc < X.n := by have := HCC.out; omega
          have qc : (cc : Int) < (X.n : Int) := by omega
          have p5 := HPW.out.cell 5
          have p3 := HPW.out.cell 3
          simp only [List.getElem?_toArray, List.getElem?_cons_zero, List.getElem?_cons_succ] at p5 p3
          rw [HCC.out] at p5
          have t0 := (HTW.out.cell cc).trans (AU.tkC_at hcc2)
          have f0 := HTW.out.frozen cc
          have hpw : wr.heap.size ≠ w.heap.size := blk_ne HPW.out HTW.out (by decide)
          have hfs : FxT [4] w2 (w2.setCell ⟨w.heap.size, cc, none⟩ (.bool true)) := (FxT.refl _ w2).set HTW.out (by simp) cc _
          have HO3 := Lib.hid (own_fx HOW.out hfs (by decide))
          have HE3 := Lib.hid (own_fx HEW.out hfs (by decide))
          have HF3 := Lib.hid (HFW.out.trans hfs)
          have hb3 := HBW.out.setCell (p := ⟨w.heap.size, cc, none⟩) (Nat.le_refl _) (.bool true)
          have HT3 := Lib.hid (show Blk (w2.setCell ⟨w.heap.size, cc, none⟩ (.bool true)) w.heap.size 4 (AU.tkC X.n (AU.fixL m.ps m.slot (ch.take (k + 1)))) by rw [HF1.out, ← AU.tkC_set hcc2 HCC.out]; exact HTW.out.set_ cc _)
          have hp3' := HPW.out.fx hfs (by decide)
          have y5 := hp3'.cell 5
          have y3 := hp3'.cell 3
          simp only [List.getElem?_toArray, List.getElem?_cons_zero, List.getElem?_cons_succ] at y5 y3
          have HEV := Lib.hid (event_any (HI.out.below hb3) 2 i p.core (p.ran + 1) p HL.out.symm h40 HPP.out b1)
          rw [show (rqL m.slot 2 ⟨p.core, i, (p.jobs : Int) - 1, p.ran + 1⟩).toArray = #[.int .i64 (m.slot : Int), .int .i64 p.core, .int .i64 (i : Int), .int .i64 ((p.jobs : Int) - 1), .int .u8 2, .int .i64 (p.ran + 1), .int .i64 0, .int .i64 0] from rfl] at HEV
          have HB3 := Lib.hid hb3
          clear hb3 hp3' hfs HOW HFW HBW HTW HEW HPW HPP
          go_wp2_with fail
          refine HEV.out.mono ?_
          rintro e w5 ⟨rfl, hg5⟩
          have HO5 := Lib.hid (own_below HO3.out hg5.1)
          have HE5 := Lib.hid (own_below HE3.out hg5.1)
          have HT5 := Lib.hid (HT3.out.below hg5.1)
          have HF5 := Lib.hid (HF3.out.below hg5.1)
          have HB5 := Lib.hid (HB3.out.trans (hg5.1.mono HB3.out.size))
          clear hg5 HO3 HE3 HT3 HF3 HB3 HEV p5 p3 y5 y3 t0 f0
          go_wp2_with (at_builtin; refine wpList_append_own _ rfl _ _ 22 rfl w1.heap.size 26 i1 (.agg #[.int .i64 0, .int .i64 0, .int .i64 0, .int .i64 0, .int .u8 0, .int .i64 0, .int .i64 0, .int .i64 0]) 8 64 Tryz.underlying22 K0.out K1.out K2.out K3.out rfl (by decide) _ _ _ rfl (HE5.out.alloc _) ⟨w5.heap.size, 0, none⟩ 1 1 [.int .i64 (m.slot : Int), .int .i64 p.core, .int .i64 (i : Int), .int .i64 ((p.jobs : Int) - 1), .int .u8 2, .int .i64 (p.ran + 1), .int .i64 0, .int .i64 0] rfl rfl ?e1 ?e2 ?e3 ?e4 ?e5 ?_)
          case e1 => exact World.news_of_block (cs := #[.int .i64 (m.slot : Int), .int .i64 p.core, .int .i64 (i : Int), .int .i64 ((p.jobs : Int) - 1), .int .u8 2, .int .i64 (p.ran + 1), .int .i64 0, .int .i64 0]) (heap_alloc_new w5 _)
          case e2 => intro u hu; simp at hu; rcases hu with rfl | rfl | rfl | rfl | rfl | rfl | rfl | rfl <;> rfl
          case e3 => unfold maxLen; omega
          case e4 => omega
          case e5 => have := HF5.out.1; simp; omega
          intro v' w6 hown6 hg6 _
          have hoA := HE5.out.alloc (.cells #[.int .i64 (m.slot : Int), .int .i64 p.core, .int .i64 (i : Int), .int .i64 ((p.jobs : Int) - 1), .int .u8 2, .int .i64 (p.ran + 1), .int .i64 0, .int .i64 0] 26)
          have hfe : FxT [26] (w5.alloc (.cells #[.int .i64 (m.slot : Int), .int .i64 p.core, .int .i64 (i : Int), .int .i64 ((p.jobs : Int) - 1), .int .u8 2, .int .i64 (p.ran + 1), .int .i64 0, .int .i64 0] 26)) w6 := (FxT.refl _ _).grown hg6 (own_row hoA (by simp))
          have HB6 := Lib.hid (show Below w.heap.size w w6 from Below.grown (HB5.out.alloc HB5.out.size (.cells #[.int .i64 (m.slot : Int), .int .i64 p.core, .int .i64 (i : Int), .int .i64 ((p.jobs : Int) - 1), .int .u8 2, .int .i64 (p.ran + 1), .int .i64 0, .int .i64 0] 26)) hg6 (by have := HB5.out.size; simp; omega) (fun k hk => by have := (hoA.lt k hk).1; omega))
          have HR6 := Lib.hid (show w6.ownsRow w1.heap.size 26 8 v' (AU.fixL m.ps m.slot (ch.take k) ++ [(⟨p.core, i, (p.jobs : Int) - 1, p.ran + 1⟩ : Rq)]).length (rqC m.slot 2 (AU.fixL m.ps m.slot (ch.take k) ++ [(⟨p.core, i, (p.jobs : Int) - 1, p.ran + 1⟩ : Rq)])) from (by
            rw [rqC_snoc]
            have h := hown6
            simpa [rqL] using h))
          have HR8 := Lib.hid (show DRel w w1 w.heap.size X.n m.ps m.slot (ch.take (k + 1)) v' (.slice A5 (AU.othL m.ps m.slot (ch.take k)).length c5) w6 from
            ⟨HB6.out, (HF5.out.alloc _).gnew hg6 (fun k hk => (hoA.lt k hk).1), (HT5.out.alloc _).fx hfe (by decide), by rw [HF1.out]; exact HR6.out, by rw [HO1.out]; exact own_fx (HO5.out.alloc _) hfe (by decide)⟩)
          clear hown6 hg6 hoA hfe HR6 HB6
          go_wp2_with fail
          exact ⟨⟨k + 1, hk1, by simp, HR8.out⟩, by simp [intOf]; omega⟩
        · have d1 : (p.last == (m.slot : Int) - 1) = false := by simp [h1]
          have HNN := Lib.hid (show AU.fixed m.ps m.slot i = none by rw [HFX.out, decide_eq_false h1]; simp)
          clear HFX h0 h1
          have HF1 := Lib.hid (show AU.fixL m.ps m.slot (ch.take (k + 1)) = AU.fixL m.ps m.slot (ch.take k) by rw [HTK.out, AU.fixL_snoc, HNN.out]; simp)
          have HO1 := Lib.hid (show AU.othL m.ps m.slot (ch.take (k + 1)) = AU.othL m.ps m.slot (ch.take k) ++ [i] by rw [HTK.out, AU.othL_snoc, HNN.out]; simp)
          clear HNN HTK HMK HPP HI3
          go_quiet (fail)
          have HOW : Hid (((wr.alloc (.cells #[.int .i64 (p.jobs : Int), .bool p.live, .int .i64 p.rel, .int .i64 p.ran, .int .i64 p.last, .int .i64 p.core] 93)).drewN nq).ownsRow w1.heap.size 3 1 (.slice A5 (AU.othL m.ps m.slot (ch.take k)).length c5) (AU.othL m.ps m.slot (ch.take k)).length (AU.nats (AU.othL m.ps m.slot (ch.take k)))) := Lib.hid (HD.out.oo.alloc _)
          have HFW : Hid (FxT [4] w1 ((wr.alloc (.cells #[.int .i64 (p.jobs : Int), .bool p.live, .int .i64 p.rel, .int .i64 p.ran, .int .i64 p.last, .int .i64 p.core] 93)).drewN nq)) := Lib.hid ((HD.out.fx.alloc _).drewN nq)
          have HBW : Hid (Below w.heap.size w ((wr.alloc (.cells #[.int .i64 (p.jobs : Int), .bool p.live, .int .i64 p.rel, .int .i64 p.ran, .int .i64 p.last, .int .i64 p.core] 93)).drewN nq)) := Lib.hid (below_drewN (HD.out.be.alloc HD.out.be.size _) nq)
          have HTW : Hid (Blk ((wr.alloc (.cells #[.int .i64 (p.jobs : Int), .bool p.live, .int .i64 p.rel, .int .i64 p.ran, .int .i64 p.last, .int .i64 p.core] 93)).drewN nq) w.heap.size 4 (AU.tkC X.n (AU.fixL m.ps m.slot (ch.take k)))) := Lib.hid ((HD.out.bt.alloc _).drewN nq)
          have HEW : Hid (((wr.alloc (.cells #[.int .i64 (p.jobs : Int), .bool p.live, .int .i64 p.rel, .int .i64 p.ran, .int .i64 p.last, .int .i64 p.core] 93)).drewN nq).ownsRow w1.heap.size 26 8 (.slice A3 (AU.fixL m.ps m.slot (ch.take k)).length c3) (AU.fixL m.ps m.slot (ch.take k)).length (rqC m.slot 2 (AU.fixL m.ps m.slot (ch.take k)))) := Lib.hid (HD.out.ol.alloc _)
          clear HD HP3
          generalize (wr.alloc (.cells #[.int .i64 (p.jobs : Int), .bool p.live, .int .i64 p.rel, .int .i64 p.ran, .int .i64 p.last, .int .i64 p.core] 93)).drewN nq = w2 at *
          go_wp2_with (at_builtin; refine wpList_append_own _ rfl _ _ 40 rfl w1.heap.size 3 i2 (.int .i64 0) 1 8 Tryz.underlying40 L0.out L1.out L2.out L3.out rfl (by decide) _ _ _ rfl (HOW.out.alloc _) ⟨w2.heap.size, 0, none⟩ 1 1 [.int .i64 (i : Int)] rfl rfl ?c1 ?c2 ?c3 ?c4 ?c5 ?_)
          case c2 => rfl
          case c3 => unfold maxLen; omega
          case c4 => omega
          case c5 => have := HFW.out.1; simp; omega
          intro v' w7 hown7 hg7 _
          have hoA := HOW.out.alloc (.cells #[.int .i64 (i : Int)] 3)
          have hfi : FxT [3] (w2.alloc (.cells #[.int .i64 (i : Int)] 3)) w7 := (FxT.refl _ _).grown hg7 (own_row hoA (by simp))
          have HR7 := Lib.hid (show DRel w w1 w.heap.size X.n m.ps m.slot (ch.take (k + 1)) (.slice A3 (AU.fixL m.ps m.slot (ch.take k)).length c3) v' w7 from
            ⟨Below.grown (HBW.out.alloc HBW.out.size _) hg7 (by have := HBW.out.size; simp; omega) (fun k hk => by have := (hoA.lt k hk).1; omega), (HFW.out.alloc _).gnew hg7 (fun k hk => (hoA.lt k hk).1),
             by rw [HF1.out]; exact (HTW.out.alloc _).fx hfi (by decide), by rw [HF1.out]; exact own_fx (HEW.out.alloc _) hfi (by decide), by
              rw [HO1.out]
              have h := hown7
              simpa [AU.nats] using h⟩)
          clear hown7 hg7 hfi hoA
          go_wp2_with fail
          exact ⟨⟨k + 1, hk1, by simp, HR7.out⟩, by simp [intOf]; omega⟩
      · have d0 : decide (0 < p.ran) = false := decide_eq_false h0
        have HNN := Lib.hid (show AU.fixed m.ps m.slot i = none by rw [HFX.out, d0]; rfl)
        clear HFX h0
        have HF1 := Lib.hid (show AU.fixL m.ps m.slot (ch.take (k + 1)) = AU.fixL m.ps m.slot (ch.take k) by rw [HTK.out, AU.fixL_snoc, HNN.out]; simp)
        have HO1 := Lib.hid (show AU.othL m.ps m.slot (ch.take (k + 1)) = AU.othL m.ps m.slot (ch.take k) ++ [i] by rw [HTK.out, AU.othL_snoc, HNN.out]; simp)
        clear HNN HTK HMK HPP HI3
        go_quiet (fail)
        have HOW : Hid (((wr.alloc (.cells #[.int .i64 (p.jobs : Int), .bool p.live, .int .i64 p.rel, .int .i64 p.ran, .int .i64 p.last, .int .i64 p.core] 93)).drewN nq).ownsRow w1.heap.size 3 1 (.slice A5 (AU.othL m.ps m.slot (ch.take k)).length c5) (AU.othL m.ps m.slot (ch.take k)).length (AU.nats (AU.othL m.ps m.slot (ch.take k)))) := Lib.hid (HD.out.oo.alloc _)
        have HFW : Hid (FxT [4] w1 ((wr.alloc (.cells #[.int .i64 (p.jobs : Int), .bool p.live, .int .i64 p.rel, .int .i64 p.ran, .int .i64 p.last, .int .i64 p.core] 93)).drewN nq)) := Lib.hid ((HD.out.fx.alloc _).drewN nq)
        have HBW : Hid (Below w.heap.size w ((wr.alloc (.cells #[.int .i64 (p.jobs : Int), .bool p.live, .int .i64 p.rel, .int .i64 p.ran, .int .i64 p.last, .int .i64 p.core] 93)).drewN nq)) := Lib.hid (below_drewN (HD.out.be.alloc HD.out.be.size _) nq)
        have HTW : Hid (Blk ((wr.alloc (.cells #[.int .i64 (p.jobs : Int), .bool p.live, .int .i64 p.rel, .int .i64 p.ran, .int .i64 p.last, .int .i64 p.core] 93)).drewN nq) w.heap.size 4 (AU.tkC X.n (AU.fixL m.ps m.slot (ch.take k)))) := Lib.hid ((HD.out.bt.alloc _).drewN nq)
        have HEW : Hid (((wr.alloc (.cells #[.int .i64 (p.jobs : Int), .bool p.live, .int .i64 p.rel, .int .i64 p.ran, .int .i64 p.last, .int .i64 p.core] 93)).drewN nq).ownsRow w1.heap.size 26 8 (.slice A3 (AU.fixL m.ps m.slot (ch.take k)).length c3) (AU.fixL m.ps m.slot (ch.take k)).length (rqC m.slot 2 (AU.fixL m.ps m.slot (ch.take k)))) := Lib.hid (HD.out.ol.alloc _)
        clear HD HP3
        generalize (wr.alloc (.cells #[.int .i64 (p.jobs : Int), .bool p.live, .int .i64 p.rel, .int .i64 p.ran, .int .i64 p.last, .int .i64 p.core] 93)).drewN nq = w2 at *
        go_wp2_with (at_builtin; refine wpList_append_own _ rfl _ _ 40 rfl w1.heap.size 3 i2 (.int .i64 0) 1 8 Tryz.underlying40 L0.out L1.out L2.out L3.out rfl (by decide) _ _ _ rfl (HOW.out.alloc _) ⟨w2.heap.size, 0, none⟩ 1 1 [.int .i64 (i : Int)] rfl rfl ?d1 ?d2 ?d3 ?d4 ?d5 ?_)
        case d2 => rfl
        case d3 => unfold maxLen; omega
        case d4 => omega
        case d5 => have := HFW.out.1; simp; omega
        intro v' w7 hown7 hg7 _
        have hoA := HOW.out.alloc (.cells #[.int .i64 (i : Int)] 3)
        have hfi : FxT [3] (w2.alloc (.cells #[.int .i64 (i : Int)] 3)) w7 := (FxT.refl _ _).grown hg7 (own_row hoA (by simp))
        have HR7 := Lib.hid (show DRel w w1 w.heap.size X.n m.ps m.slot (ch.take (k + 1)) (.slice A3 (AU.fixL m.ps m.slot (ch.take k)).length c3) v' w7 from
          ⟨Below.grown (HBW.out.alloc HBW.out.size _) hg7 (by have := HBW.out.size; simp; omega) (fun k hk => by have := (hoA.lt k hk).1; omega), (HFW.out.alloc _).gnew hg7 (fun k hk => (hoA.lt k hk).1),
           by rw [HF1.out]; exact (HTW.out.alloc _).fx hfi (by decide), by rw [HF1.out]; exact own_fx (HEW.out.alloc _) hfi (by decide), by
            rw [HO1.out]
            have h := hown7
            simpa [AU.nats] using h⟩)
        clear hown7 hg7 hfi hoA
        go_wp2_with fail
        exact ⟨⟨k + 1, hk1, by simp, HR7.out⟩, by simp [intOf]; omega⟩
    · have q0 : ¬ (k : Int) < (ch.length : Int) := by omega
      have hke : k = ch.length := by omega
      subst hke
      rw [List.take_length] at hD HD
      have hsub : ∀ i ∈ AU.othL m.ps m.slot ch, ∃ t p, X.ts[i]? = some t ∧ m.ps[i]? = some p := fun i hi => HSM.out i (by unfold AU.othL at hi; exact (List.mem_filter.1 hi).1)
      have HSB := Lib.hid hsub
      have hasg : AU.asg m.ps m.slot X.n ch = AU.fixL m.ps m.slot ch ++ AU.newL m.ps (AU.freeL (AU.fixL m.ps m.slot ch) X.n) (AU.othL m.ps m.slot ch) := rfl
      have hfl : (AU.fixL m.ps m.slot ch).length ≤ 4 := Nat.le_trans (List.length_filterMap_le _ _) (by omega)
      have hol : (AU.othL m.ps m.slot ch).length ≤ 4 := Nat.le_trans (List.length_filter_le _ _) (by omega)
      have HA := Lib.hid hasg
      have hbt := hD.bt
      have hol2 := hD.ol
      have hoo := hD.oo
      have hbe := hD.be
      have hsz := hD.fx.1
      have hcap : (AU.othL m.ps m.slot ch).length ≤ c5 := by
        rcases hoo.2 with ⟨e0, h0⟩ | ⟨g, cap, cur, e0, _, _, h0, _⟩
        · injection e0 with _ e1 e2; omega
        · injection e0 with _ e1 e2; omega
      have hrt := rowT_own hoo
      rw [List.take_length]
      clear hD HD hoo hasg HCS HSM
      generalize has : AU.asg m.ps m.slot X.n ch = asg at *
      have HAS := Lib.hid has
      clear has
      generalize AU.fixL m.ps m.slot ch = FX at *
      generalize AU.othL m.ps m.slot ch = OT at *
      have HD0 := Lib.hid (show D2Rel w w1 w.heap.size X.n m.slot m.ps FX OT 0 (.slice A3 FX.length c3) (.slice A5 OT.length c5) wr from
        ⟨hbe, hsz, hbt, by rw [AU.freeL_zero]; simpa [AU.newL] using hol2, A5, c5, by rw [AU.freeL_zero]; simp, by rw [AU.freeL_zero]; simpa using hcap, by rw [AU.freeL_zero]; simpa using hrt⟩)
      clear hbt hol2 hbe hsz hcap hrt
      go_wp2_with fail
      go_loopw [3, 5, 65] (fun lv ov i wx => ∃ c : Nat, c ≤ X.n ∧ i = .int .i64 (c : Int) ∧ D2Rel w w1 w.heap.size X.n m.slot m.ps FX OT c lv ov wx) (fun _ _ i _ => X.n - (intOf i).toNat)
      case atStart => exact ⟨0, Nat.zero_le _, rfl, HD0.out⟩
      case round =>
        clear HD0
        obtain ⟨c, hc, rfl, hD⟩ := hrel
        obtain ⟨A3, c3, hlv⟩ := own_form hD.ol
        obtain ⟨A5, c5, hov, hcap, hrt⟩ := hD.oo
        subst hlv hov
        have HD2 := Lib.hid hD
        have HFR := Lib.hid (AU.freeL_succ FX c)
        have hol2 := hD.ol
        have hacl : (FX ++ AU.newL m.ps (AU.freeL FX c) OT).length ≤ 8 := by
          rw [List.length_append]
          have : (AU.newL m.ps (AU.freeL FX c) OT).length ≤ 4 := by unfold AU.newL; rw [List.length_zipWith]; omega
          omega
        generalize hac : FX ++ AU.newL m.ps (AU.freeL FX c) OT = acc at *
        have HAC := Lib.hid hac
        have HOL := Lib.hid hol2
        clear hac hol2
        by_cases hcl : c < X.n
        · have q1 : (c : Int) < (X.n : Int) := by omega
          have t0 := (hD.bt.cell c).trans (AU.tkC_at hcl)
          have hsw := hD.sz
          generalize htb : AU.takenB FX c = tb at *
          have HTB := Lib.hid htb
          clear htb hD
          cases tb with
          | true =>
            have hf : AU.freeL FX (c + 1) = AU.freeL FX c := by rw [HFR.out]; simp
            have HNL := Lib.hid (show AU.newL m.ps (AU.freeL FX (c + 1)) OT = AU.newL m.ps (AU.freeL FX c) OT by rw [hf])
            have HDR := Lib.hid (show OT.drop (AU.freeL FX (c + 1)).length = OT.drop (AU.freeL FX c).length by rw [hf])
            clear hf HFR
            skip
            go_wp2_with fail
            refine ⟨⟨c + 1, hcl, by simp, HD2.out.be, HD2.out.sz, HD2.out.bt, ?_, ?_⟩, by simp [intOf]; omega⟩
            · rw [HNL.out, HAC.out]; exact HOL.out
            · obtain ⟨A', c', g1, g2, g3⟩ := HD2.out.oo
              rw [HDR.out]
              exact ⟨A', c', g1, g2, g3⟩
          | false =>
            have hf : AU.freeL FX (c + 1) = AU.freeL FX c ++ [c] := by rw [HFR.out]; simp
            cases hdr : OT.drop (AU.freeL FX c).length with
            | nil =>
              have hge : OT.length ≤ (AU.freeL FX c).length := by
                have := congrArg List.length hdr
                simp at this
                omega
              have HNL := Lib.hid (show AU.newL m.ps (AU.freeL FX (c + 1)) OT = AU.newL m.ps (AU.freeL FX c) OT by rw [hf, AU.newL_full hge])
              have HDR := Lib.hid (show OT.drop (AU.freeL FX (c + 1)).length = OT.drop (AU.freeL FX c).length by rw [hdr, hf, List.drop_eq_nil_iff]; simp; omega)
              have HDN := Lib.hid hdr
              clear hf HFR hge hdr hcap hrt
              go_wp2_with fail
              refine ⟨⟨c + 1, hcl, by simp, HD2.out.be, HD2.out.sz, HD2.out.bt, ?_, ?_⟩, by simp [intOf]; omega⟩
              · rw [HNL.out, HAC.out]; exact HOL.out
              · rw [HDR.out, HDN.out]
                exact ⟨A5, c5, rfl, Nat.zero_le _, fun h => absurd rfl h⟩
            | cons i rest =>
              have hqi : OT[(AU.freeL FX c).length]? = some i := by
                have h := congrArg (fun l => l[0]?) hdr
                simpa [List.getElem?_drop] using h
              have HNL := Lib.hid (show AU.newL m.ps (AU.freeL FX (c + 1)) OT = AU.newL m.ps (AU.freeL FX c) OT ++ [AU.mkR m.ps (c : Int) i] by rw [hf, AU.newL_snoc hqi])
              have HDR := Lib.hid (show OT.drop (AU.freeL FX (c + 1)).length = rest by
                rw [hf, List.length_append, List.length_singleton, ← List.drop_drop, hdr]
                rfl)
              rw [hdr] at hcap hrt
              obtain ⟨t, p, ht, hp⟩ := HSB.out i (List.mem_of_getElem? hqi)
              have hit : i < X.ts.length := (List.getElem?_eq_some_iff.1 ht).1
              have qi : (i : Int) < (X.ts.length : Int) := by omega
              obtain ⟨b1, b2, b3, b4, b5, b6, b7⟩ := HOK.out i t p ht hp
              have hvt := HX.out.ok t (List.mem_of_getElem? ht)
              obtain ⟨v1, v2, v3⟩ := SL.okTk_iff.1 hvt
              have HMK := Lib.hid (show AU.mkR m.ps (c : Int) i = ⟨c, i, (p.jobs : Int) - 1, p.ran + 1⟩ from by unfold AU.mkR; rw [hp])
              have z2 : IntKind.i64.wrap (p.ran + 1) = p.ran + 1 := IntWalk.i64_in _ (by omega)
              have hI2 := HI.out.below HD2.out.be
              obtain ⟨_, a2, _, _, _⟩ := hI2.cells
              obtain ⟨_, _, _, c3', _, _⟩ := pr_cells hI2.bp hp
              have HEV := Lib.hid (event_any hI2 2 i (c : Int) (p.ran + 1) p HL.out.symm h40 hp b1)
              rw [show (rqL m.slot 2 ⟨(c : Int), i, (p.jobs : Int) - 1, p.ran + 1⟩).toArray = #[.int .i64 (m.slot : Int), .int .i64 (c : Int), .int .i64 (i : Int), .int .i64 ((p.jobs : Int) - 1), .int .u8 2, .int .i64 (p.ran + 1), .int .i64 0, .int .i64 0] from rfl] at HEV
              have HRT := Lib.hid hrt
              obtain ⟨b, o, rfl, _, xc⟩ := hrt.row (by simp [AU.nats])
              have x0 : wr.cell? ⟨b, o, none⟩ = some (.int .i64 (i : Int)) := xc 0 _ rfl
              simp only [List.length_cons] at hcap
              clear hf HFR hdr hqi xc hrt hI2 ht hp hvt
              by_cases hone : c5 = 1
              · have hr0 : rest = [] := List.length_eq_zero_iff.1 (by omega)
                subst hone hr0
                simp only [List.length_cons, List.length_nil]
                go_wp2_with fail
                refine HEV.out.mono ?_
                rintro e w5 ⟨rfl, hg5⟩
                have HE5 := Lib.hid (own_below HOL.out hg5.1)
                have HT5 := Lib.hid (HD2.out.bt.below hg5.1)
                skip
                have HB5 := Lib.hid (HD2.out.be.trans (hg5.1.mono HD2.out.be.size))
                have HS5 := Lib.hid (Nat.le_trans HD2.out.sz hg5.1.size)
                clear hg5 HEV HD2 x0 c3' a2 t0 hsw
                go_wp2_with (at_builtin; refine wpList_append_own _ rfl _ _ 22 rfl w1.heap.size 26 i1 (.agg #[.int .i64 0, .int .i64 0, .int .i64 0, .int .i64 0, .int .u8 0, .int .i64 0, .int .i64 0, .int .i64 0]) 8 64 Tryz.underlying22 K0.out K1.out K2.out K3.out rfl (by decide) _ _ _ rfl (HE5.out.alloc _) ⟨w5.heap.size, 0, none⟩ 1 1 [.int .i64 (m.slot : Int), .int .i64 (c : Int), .int .i64 (i : Int), .int .i64 ((p.jobs : Int) - 1), .int .u8 2, .int .i64 (p.ran + 1), .int .i64 0, .int .i64 0] rfl rfl ?h1 ?h2 ?h3 ?h4 ?h5 ?_)
                case h1 => exact World.news_of_block (cs := #[.int .i64 (m.slot : Int), .int .i64 (c : Int), .int .i64 (i : Int), .int .i64 ((p.jobs : Int) - 1), .int .u8 2, .int .i64 (p.ran + 1), .int .i64 0, .int .i64 0]) (heap_alloc_new w5 _)
                case h2 => intro u hu; simp at hu; rcases hu with rfl | rfl | rfl | rfl | rfl | rfl | rfl | rfl <;> rfl
                case h3 => unfold maxLen; omega
                case h4 => omega
                case h5 => have := HS5.out; simp; omega
                intro v' w6 hown6 hg6 _
                have hoA := HE5.out.alloc (.cells #[.int .i64 (m.slot : Int), .int .i64 (c : Int), .int .i64 (i : Int), .int .i64 ((p.jobs : Int) - 1), .int .u8 2, .int .i64 (p.ran + 1), .int .i64 0, .int .i64 0] 26)
                have hfe : FxT [26] (w5.alloc (.cells #[.int .i64 (m.slot : Int), .int .i64 (c : Int), .int .i64 (i : Int), .int .i64 ((p.jobs : Int) - 1), .int .u8 2, .int .i64 (p.ran + 1), .int .i64 0, .int .i64 0] 26)) w6 := (FxT.refl _ _).grown hg6 (own_row hoA (by simp))
                have HB6 := Lib.hid (show Below w.heap.size w w6 from Below.grown (HB5.out.alloc HB5.out.size (.cells #[.int .i64 (m.slot : Int), .int .i64 (c : Int), .int .i64 (i : Int), .int .i64 ((p.jobs : Int) - 1), .int .u8 2, .int .i64 (p.ran + 1), .int .i64 0, .int .i64 0] 26)) hg6 (by have := HB5.out.size; simp; omega) (fun k hk => by have := (hoA.lt k hk).1; omega))
                have HS6 := Lib.hid (show w1.heap.size ≤ w6.heap.size by have := HS5.out; have := hg6.size; simp at this; omega)
                have HR6 := Lib.hid (show w6.ownsRow w1.heap.size 26 8 v' (acc ++ [(⟨(c : Int), i, (p.jobs : Int) - 1, p.ran + 1⟩ : Rq)]).length (rqC m.slot 2 (acc ++ [(⟨(c : Int), i, (p.jobs : Int) - 1, p.ran + 1⟩ : Rq)])) from (by
                  rw [rqC_snoc]
                  have h := hown6
                  simpa [rqL] using h))
                have HT6 := Lib.hid ((HT5.out.alloc (.cells #[.int .i64 (m.slot : Int), .int .i64 (c : Int), .int .i64 (i : Int), .int .i64 ((p.jobs : Int) - 1), .int .u8 2, .int .i64 (p.ran + 1), .int .i64 0, .int .i64 0] 26)).fx hfe (by decide))
                clear hown6 hg6 hoA hfe
                go_wp2_with fail
                refine ⟨⟨c + 1, hcl, by simp, HB6.out, HS6.out, HT6.out, ?_, ?_⟩, by simp [intOf]; omega⟩
                · rw [HNL.out, HMK.out, ← List.append_assoc, HAC.out]
                  exact HR6.out
                · rw [HDR.out]
                  exact ⟨_, _, rfl, Nat.zero_le _, fun h => absurd rfl h⟩
              · have hone2 : 1 < c5 := by omega
                simp only [List.length_cons]
                go_wp2_with fail
                refine HEV.out.mono ?_
                rintro e w5 ⟨rfl, hg5⟩
                have HE5 := Lib.hid (own_below HOL.out hg5.1)
                have HT5 := Lib.hid (HD2.out.bt.below hg5.1)
                have HR5 := Lib.hid (HRT.out.below hg5.1)
                have HB5 := Lib.hid (HD2.out.be.trans (hg5.1.mono HD2.out.be.size))
                have HS5 := Lib.hid (Nat.le_trans HD2.out.sz hg5.1.size)
                clear hg5 HEV HD2 x0 c3' a2 t0 hsw
                go_wp2_with (at_builtin; refine wpList_append_own _ rfl _ _ 22 rfl w1.heap.size 26 i1 (.agg #[.int .i64 0, .int .i64 0, .int .i64 0, .int .i64 0, .int .u8 0, .int .i64 0, .int .i64 0, .int .i64 0]) 8 64 Tryz.underlying22 K0.out K1.out K2.out K3.out rfl (by decide) _ _ _ rfl (HE5.out.alloc _) ⟨w5.heap.size, 0, none⟩ 1 1 [.int .i64 (m.slot : Int), .int .i64 (c : Int), .int .i64 (i : Int), .int .i64 ((p.jobs : Int) - 1), .int .u8 2, .int .i64 (p.ran + 1), .int .i64 0, .int .i64 0] rfl rfl ?g1 ?g2 ?g3 ?g4 ?g5 ?_)
                case g1 => exact World.news_of_block (cs := #[.int .i64 (m.slot : Int), .int .i64 (c : Int), .int .i64 (i : Int), .int .i64 ((p.jobs : Int) - 1), .int .u8 2, .int .i64 (p.ran + 1), .int .i64 0, .int .i64 0]) (heap_alloc_new w5 _)
                case g2 => intro u hu; simp at hu; rcases hu with rfl | rfl | rfl | rfl | rfl | rfl | rfl | rfl <;> rfl
                case g3 => unfold maxLen; omega
                case g4 => omega
                case g5 => have := HS5.out; simp; omega
                intro v' w6 hown6 hg6 _
                have hoA := HE5.out.alloc (.cells #[.int .i64 (m.slot : Int), .int .i64 (c : Int), .int .i64 (i : Int), .int .i64 ((p.jobs : Int) - 1), .int .u8 2, .int .i64 (p.ran + 1), .int .i64 0, .int .i64 0] 26)
                have hfe : FxT [26] (w5.alloc (.cells #[.int .i64 (m.slot : Int), .int .i64 (c : Int), .int .i64 (i : Int), .int .i64 ((p.jobs : Int) - 1), .int .u8 2, .int .i64 (p.ran + 1), .int .i64 0, .int .i64 0] 26)) w6 := (FxT.refl _ _).grown hg6 (own_row hoA (by simp))
                have HB6 := Lib.hid (show Below w.heap.size w w6 from Below.grown (HB5.out.alloc HB5.out.size (.cells #[.int .i64 (m.slot : Int), .int .i64 (c : Int), .int .i64 (i : Int), .int .i64 ((p.jobs : Int) - 1), .int .u8 2, .int .i64 (p.ran + 1), .int .i64 0, .int .i64 0] 26)) hg6 (by have := HB5.out.size; simp; omega) (fun k hk => by have := (hoA.lt k hk).1; omega))
                have HS6 := Lib.hid (show w1.heap.size ≤ w6.heap.size by have := HS5.out; have := hg6.size; simp at this; omega)
                have HR6 := Lib.hid (show w6.ownsRow w1.heap.size 26 8 v' (acc ++ [(⟨(c : Int), i, (p.jobs : Int) - 1, p.ran + 1⟩ : Rq)]).length (rqC m.slot 2 (acc ++ [(⟨(c : Int), i, (p.jobs : Int) - 1, p.ran + 1⟩ : Rq)])) from (by
                  rw [rqC_snoc]
                  have h := hown6
                  simpa [rqL] using h))
                have HRR := Lib.hid (show RowT w6 3 (some ⟨b, o + 1, none⟩) (AU.nats rest) from fun hn => by
                  obtain ⟨b', o', cs', m', g1, g2, g3⟩ := (RowT.fx (HR5.out.below ((Gr.refl w5).alloc (.cells #[.int .i64 (m.slot : Int), .int .i64 (c : Int), .int .i64 (i : Int), .int .i64 ((p.jobs : Int) - 1), .int .u8 2, .int .i64 (p.ran + 1), .int .i64 0, .int .i64 0] 26)).1) hfe (by decide)) (by simp [AU.nats])
                  injection g1 with g1
                  injection g1 with g1 g1'
                  subst g1 g1'
                  exact ⟨_, _, cs', m', rfl, g2, fun j v hj => by
                    have := g3 (j + 1) v (by simpa [AU.nats] using hj)
                    rwa [show o + 1 + j = o + (j + 1) from by omega]⟩)
                have HT6 := Lib.hid ((HT5.out.alloc (.cells #[.int .i64 (m.slot : Int), .int .i64 (c : Int), .int .i64 (i : Int), .int .i64 ((p.jobs : Int) - 1), .int .u8 2, .int .i64 (p.ran + 1), .int .i64 0, .int .i64 0] 26)).fx hfe (by decide))
                clear hown6 hg6 hoA hfe
                go_wp2_with fail
                refine ⟨⟨c + 1, hcl, by simp, HB6.out, HS6.out, HT6.out, ?_, ?_⟩, by simp [intOf]; omega⟩
                · rw [HNL.out, HMK.out, ← List.append_assoc, HAC.out]
                  exact HR6.out
                · rw [HDR.out]
                  exact ⟨_, _, rfl, by omega, HRR.out⟩
        · have q1 : ¬ (c : Int) < (X.n : Int) := by omega
          have hce : c = X.n := by omega
          subst hce
          have hae : acc = asg := by rw [HA.out, HAC.out]
          subst hae
          have HSC := Lib.hid (sortCores_any m.slot 2 acc HCN.out w1.heap.size wr _ HOL.out (by omega))
          have HPM := Lib.hid (srtC_perm acc).length_eq
          have HDB := Lib.hid hD.be
          clear hD HD2 HFR hcap hrt HA HCN HAC HOL
          go_wp2_with fail
          refine HSC.out.mono ?_
          rintro e w7 ⟨rfl, h7, h8⟩
          have H7 := Lib.hid (own_low h7 (Nat.le_of_lt hgw))
          have H8 := Lib.hid (h8 w.heap.size w HDB.out (Nat.le_of_lt hgw))
          clear h7 h8 HSC
          go_wp2_with fail
          go_ret
          refine ⟨_, rfl, ?_, H8.out⟩
          rw [HAS.out, HPM.out]
          exact H7.out
end
end Go.Proofs.YtpmbhdheeaejgaaGreatDoor
