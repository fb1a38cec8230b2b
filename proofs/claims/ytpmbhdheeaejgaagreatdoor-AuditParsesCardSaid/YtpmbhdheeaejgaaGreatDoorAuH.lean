/- The auditor: those that run. -/
import Derived.Test.YtpmbhdheeaejgaaGreatDoorAuF
import Derived.Deep.CutRange
namespace Go.Proofs.YtpmbhdheeaejgaaGreatDoor
open Go.RowKit Go.Maps Go.Sort Go.Lib
open SL (Tk Cd)
open AU (Pr Rq Ev Mo)
def AU.nats (l : List Nat) : List Value := l.map fun (k : Nat) => Value.int .i64 (k : Int)
theorem infoCdN : (Tryz.prog.info? 132).map (fun i => (i.zero, i.size, i.bytes)) = some (some (.agg #[.int .i64 0, .string ⟨#[]⟩, .int .i64 0, .int .i64 0, .int .i64 0, .int .i64 0]), 6, 56) := by kernel_rfl
theorem infoIntN : (Tryz.prog.info? 3).map (fun i => (i.zero, i.size, i.bytes)) = some (some (.int .i64 0), 1, 8) := by kernel_rfl
theorem cell_lt {W : World} {b o : Nat} {v : Value} (h : W.cell? ⟨b, o, none⟩ = some v) : b < W.heap.size := by
  unfold World.cell? at h
  cases hb : W.heap[b]? with
  | none => simp [hb] at h
  | some x => exact (Array.getElem?_eq_some_iff.1 hb).1
theorem AInv.blt {B : World} {X : Aud} {gm gp : Nat} {m : Mo} {W : World} (h : AInv B X gm gp m W) : gm < W.heap.size := by
  obtain ⟨A, c, kd, hbm, _⟩ := h.bm
  exact hbm.lt
theorem AU.srt_len (l : List Cd) : (SL.srt l).length = l.length := by
  unfold SL.srt
  rw [List.length_map, (List.mergeSort_perm _ _).length_eq, List.length_finRange]
theorem own_low {w : World} {base base' : Nat} {e : TypeId} {size : Nat} {v : Value} {n : Nat} {xs : List Value} (h : w.ownsRow base e size v n xs) (hb : base' ≤ base) : w.ownsRow base' e size v n xs := by
  refine ⟨h.1, ?_⟩
  rcases h.2 with h1 | ⟨g, cap, cur, h1, h2, h3⟩
  · exact .inl h1
  · exact .inr ⟨g, cap, cur, h1, Nat.le_trans hb h2, h3⟩
section
set_option maxHeartbeats 2000000
set_option maxRecDepth 100000
/-- A window beyond the cost. -/
theorem window_bad (t : Tk) (i : Int) (w : World) (hv : SL.okTk t = true) (hi1 : 1 ≤ i) (hi2 : t.cost < i) : Calls Tryz.prog 79 #[.agg (tkV t), .int .i64 i] w fun e w' => e = .returned (.tuple #[.agg (stV 0 0 0), .int .i64 2]) ∧ Gr w w' := by
  have d1 : decide (i < 1) = false := decide_eq_false (by omega)
  have d2 : decide (t.cost < i) = true := decide_eq_true (by omega)
  have hb1 : Gr w ((w.alloc (.cells #[.string t.name, .int .i64 t.cost, .int .i64 t.per] 34)).alloc (.cells #[.int .i64 0, .int .i64 0, .int .i64 0] 128)) := ((Gr.refl w).alloc _).alloc _
  have hk0 : Blk ((w.alloc (.cells #[.string t.name, .int .i64 t.cost, .int .i64 t.per] 34)).alloc (.cells #[.int .i64 0, .int .i64 0, .int .i64 0] 128)) w.heap.size 34 (tkV t) := (Blk.new w 34 (tkV t)).alloc _
  have hk1 : Blk ((w.alloc (.cells #[.string t.name, .int .i64 t.cost, .int .i64 t.per] 34)).alloc (.cells #[.int .i64 0, .int .i64 0, .int .i64 0] 128)) (w.heap.size + 1) 128 (stV 0 0 0) := blk_second w _ _ _ _
  obtain ⟨x0, x1, x2⟩ : ((w.alloc (.cells #[.string t.name, .int .i64 t.cost, .int .i64 t.per] 34)).alloc (.cells #[.int .i64 0, .int .i64 0, .int .i64 0] 128)).cell? ⟨w.heap.size, 0, none⟩ = some (.string t.name) ∧ ((w.alloc (.cells #[.string t.name, .int .i64 t.cost, .int .i64 t.per] 34)).alloc (.cells #[.int .i64 0, .int .i64 0, .int .i64 0] 128)).cell? ⟨w.heap.size, 1, none⟩ = some (.int .i64 t.cost) ∧ ((w.alloc (.cells #[.string t.name, .int .i64 t.cost, .int .i64 t.per] 34)).alloc (.cells #[.int .i64 0, .int .i64 0, .int .i64 0] 128)).cell? ⟨w.heap.size, 2, none⟩ = some (.int .i64 t.per) := ⟨hk0.cell 0, hk0.cell 1, hk0.cell 2⟩
  have HB1 := Lib.hid hb1
  have HK0 := Lib.hid hk0
  have HK1 := Lib.hid hk1
  have HPV := Lib.hid (fun W => (show Calls Tryz.prog 92 #[.agg #[.string t.name, .int .i64 t.cost, .int .i64 t.per]] W _ from pvalid_any t W))
  rw [hv] at HPV
  clear hb1 hk0 hk1 hv hi1 hi2
  rw [show tkV t = #[.string t.name, .int .i64 t.cost, .int .i64 t.per] from rfl]
  go_enter Tryz.func79, Tryz.ntmps79
  go_wp2_with fail
  refine (HPV.out _).mono ?_
  rintro e w2 ⟨rfl, hb⟩
  have HB2 := Lib.hid (HB1.out.trans hb)
  have hk02 := HK0.out.below hb.1
  have HK2 := Lib.hid (HK1.out.below hb.1)
  clear x0 x1 x2 hb
  obtain ⟨x0, x1, x2⟩ : w2.cell? ⟨w.heap.size, 0, none⟩ = some (.string t.name) ∧ w2.cell? ⟨w.heap.size, 1, none⟩ = some (.int .i64 t.cost) ∧ w2.cell? ⟨w.heap.size, 2, none⟩ = some (.int .i64 t.per) := ⟨hk02.cell 0, hk02.cell 1, hk02.cell 2⟩
  obtain ⟨y0, y1, y2⟩ : w2.cell? ⟨w.heap.size + 1, 0, none⟩ = some (.int .i64 0) ∧ w2.cell? ⟨w.heap.size + 1, 1, none⟩ = some (.int .i64 0) ∧ w2.cell? ⟨w.heap.size + 1, 2, none⟩ = some (.int .i64 0) := ⟨HK2.out.cell 0, HK2.out.cell 1, HK2.out.cell 2⟩
  have f0 := HK2.out.frozen 0
  have f1 := HK2.out.frozen 1
  have f2 := HK2.out.frozen 2
  clear HB1 HK0 HK1 hk02
  go_wp2_with fail
  refine bodyPost_ret (st_result rfl rfl (((HK2.out.set_ 0 _).set_ 1 _).set_ 2 _)) rfl ?_
  exact ⟨rfl, ((HB2.out.set (Nat.le_succ _) 0 _).set (Nat.le_succ _) 1 _).set (Nat.le_succ _) 2 _⟩
/-- The window that the selection asks for. -/
theorem window_sel (t : Tk) (p : Pr) (hv : SL.okTk t = true) (h0 : 0 ≤ p.ran) (h1 : p.ran ≤ t.cost) : ∃ a b c e : Int, (∀ W, Calls Tryz.prog 79 #[.agg (tkV t), .int .i64 (p.ran + 1)] W fun r w' => r = .returned (.tuple #[.agg #[.int .i64 a, .int .i64 b, .int .i64 c], .int .i64 e]) ∧ Gr W w') ∧ 0 ≤ b ∧ b ≤ 1000000 ∧
    ((p.ran < t.cost ∧ e = 0 ∧ a = p.ran + 1 ∧ b = SL.winR t (p.ran + 1)) ∨ (¬ p.ran < t.cost ∧ e = 2)) := by
  by_cases h : p.ran < t.cost
  · have hw : SL.okW t (p.ran + 1) := ⟨hv, by omega, by omega⟩
    obtain ⟨b1, b2⟩ := winR_bound hw
    exact ⟨_, _, _, 0, fun W => window_any t (p.ran + 1) W hw, b1, b2, .inl ⟨h, rfl, rfl, rfl⟩⟩
  · exact ⟨0, 0, 0, 2, fun W => window_bad t (p.ran + 1) W hv (by omega) (by omega), by omega, by omega, .inr ⟨h, rfl⟩⟩
theorem selection_any {B : World} {X : Aud} (hx : AudOk B X) {gm gp : Nat} {m : Mo} {w : World} (hI : AInv B X gm gp m w) (hl : m.ps.length = X.ts.length) (hok : AU.OkPs X.n m.slot 1000000000 X.ts m.ps) (hs : m.slot ≤ 100000) :
    Calls Tryz.prog 62 #[.pointer (some ⟨gm, 0, none⟩)] w fun e w' => ∃ v, e = .returned v ∧ w'.ownsRow w.heap.size 3 1 v (AU.sel X.ts m.ps m.slot X.n).length (AU.nats (AU.sel X.ts m.ps m.slot X.n)) ∧ Below w.heap.size w w' := by
  have hnot : ∀ (x : Bool) (w : World), (Op.unary .not (.bool x)).run Tryz.prog w = .ok (.bool (!x)) w := fun _ _ => rfl
  obtain ⟨i1, ki, kz0, kz1, kz2⟩ := info_parts infoCdN
  have K0 := Lib.hid ki
  have K1 := Lib.hid kz0
  have K2 := Lib.hid kz1
  have K3 := Lib.hid kz2
  obtain ⟨i2, li, lz0, lz1, lz2⟩ := info_parts infoIntN
  have L0 := Lib.hid li
  have L1 := Lib.hid lz0
  have L2 := Lib.hid lz1
  have L3 := Lib.hid lz2
  have HX := Lib.hid hx
  have HI := Lib.hid hI
  have HOK := Lib.hid hok
  have HL := Lib.hid hl
  have h40 := hx.len
  have hn4 := hx.n4
  obtain ⟨_, a2, _, _, _⟩ := hI.cells
  have hcds : okCs (AU.canL X.ts m.ps m.slot) := by
    refine ⟨fun c hc => ?_, AU.canL_nodup _ _ _ _⟩
    obtain ⟨i, t, p, g1, g2, g3, g4, g5, rfl⟩ := AU.canL_mem hc
    obtain ⟨b1, b2, b3, b4, b5, b6, b7⟩ := hok i t p g1 g2
    have hv := hx.ok t (List.mem_of_getElem? g1)
    exact ⟨⟨hv, by show 1 ≤ p.ran + 1; omega, by show p.ran + 1 ≤ t.cost; omega⟩, b2, by show p.rel ≤ 1000000; omega⟩
  have hsel : AU.sel X.ts m.ps m.slot X.n = ((SL.srt (AU.canL X.ts m.ps m.slot)).take X.n).map (·.num) := rfl
  have hcl : AU.canL X.ts m.ps m.slot = AU.overI X.ts.length (AU.canF X.ts m.ps m.slot) := by unfold AU.canL; rw [hl]
  generalize AU.sel X.ts m.ps m.slot X.n = ch at *
  generalize AU.canL X.ts m.ps m.slot = cd at *
  have hF : ∀ (k : Nat) (t : Tk) (p : Pr), X.ts[k]? = some t → m.ps[k]? = some p → AU.canF X.ts m.ps m.slot k = if AU.canB t p m.slot then some ⟨k, t, p.rel, p.ran + 1⟩ else none := fun k t p h1 h2 => by
    unfold AU.canF
    rw [h1, h2]
  have HF := Lib.hid hF
  generalize AU.canF X.ts m.ps m.slot = F at *
  have HCD := Lib.hid hcds
  have HSEL := Lib.hid hsel
  have HCL := Lib.hid hcl
  clear ki kz0 kz1 kz2 li lz0 lz1 lz2 hI hx hok hl hF hcds hsel hcl
  go_enter Tryz.func62, Tryz.ntmps62
  go_wp2_with fail
  clear a2
  go_loopw [3, 16] (fun v i wr => ∃ k : Nat, k ≤ X.ts.length ∧ i = .int .i64 (k : Int) ∧ wr.ownsRow w.heap.size 132 6 v (AU.overI k F).length (cdC (AU.overI k F)) ∧ Below w.heap.size w wr) (fun _ i _ => X.ts.length - (intOf i).toNat)
  case atStart => exact ⟨0, Nat.zero_le _, rfl, World.ownsRow_nil _ _ _ _, Below.refl _ _⟩
  case round =>
    obtain ⟨k, hk, rfl, hown, hbw⟩ := hrel
    obtain ⟨A3, c3, rfl⟩ := own_form hown
    have HO := Lib.hid hown
    have HB := Lib.hid hbw
    have hsw := hbw.size
    have HS := AU.overI_succ k F
    have hln := AU.overI_len k F
    generalize hacc : AU.overI k F = acc at *
    have HAC := Lib.hid hacc
    clear hacc
    have HSN := Lib.hid HS
    clear HS
    by_cases hlt : k < X.ts.length
    · have q0 : (k : Int) < (X.ts.length : Int) := by omega
      obtain ⟨t, ht⟩ : ∃ t, X.ts[k]? = some t := ⟨_, List.getElem?_eq_getElem hlt⟩
      obtain ⟨p, hp⟩ : ∃ p, m.ps[k]? = some p := ⟨_, List.getElem?_eq_getElem (by rw [HL.out]; exact hlt)⟩
      have hFk := HF.out k t p ht hp
      obtain ⟨b1, b2, b3, b4, b5, b6, b7⟩ := HOK.out k t p ht hp
      have hvt := HX.out.ok t (List.mem_of_getElem? ht)
      obtain ⟨v1, v2, v3⟩ := SL.okTk_iff.1 hvt
      have hI2 := HI.out.below hbw
      obtain ⟨c0, c1, c2, c3', c4, c5⟩ := pr_cells hI2.bp hp
      have hba := ((Gr.refl wr).alloc (.cells #[.int .i64 (p.jobs : Int), .bool p.live, .int .i64 p.rel, .int .i64 p.ran, .int .i64 p.last, .int .i64 p.core] 93)).1
      have hI3 := hI2.below hba
      have HI3 := Lib.hid hI3
      have HP3 := Lib.hid (Blk.new wr 93 #[.int .i64 (p.jobs : Int), .bool p.live, .int .i64 p.rel, .int .i64 p.ran, .int .i64 p.last, .int .i64 p.core])
      obtain ⟨p0, p1, p2, p3, p4, p5⟩ := (Blk.new wr 93 #[.int .i64 (p.jobs : Int), .bool p.live, .int .i64 p.rel, .int .i64 p.ran, .int .i64 p.last, .int .i64 p.core]).six
      have hlb : AU.canB t p m.slot = (p.live && decide (p.ran < t.cost) && decide (p.rel + SL.winR t (p.ran + 1) ≤ (m.slot : Int))) := rfl
      rw [hlb] at hFk
      have HFK := Lib.hid hFk
      have HOA := Lib.hid (HO.out.alloc (.cells #[.int .i64 (p.jobs : Int), .bool p.live, .int .i64 p.rel, .int .i64 p.ran, .int .i64 p.last, .int .i64 p.core] 93))
      have HBA := Lib.hid (HB.out.alloc hsw (.cells #[.int .i64 (p.jobs : Int), .bool p.live, .int .i64 p.rel, .int .i64 p.ran, .int .i64 p.last, .int .i64 p.core] 93))
      have HTK := Lib.hid (fun (W : World) (h : AInv B X gm gp m W) => h.task HX.out ht)
      clear hown hbw hI2 hI3 hba hFk hlb hp ht
      generalize p.live = lv at *
      cases lv with
      | false =>
        have HSA := Lib.hid (show AU.overI (k + 1) F = acc by rw [HSN.out, HFK.out]; simp)
        clear HFK HSN HP3
        go_wp2_with fail
        refine ⟨⟨k + 1, hlt, by simp, ?_, ?_⟩, by simp [intOf]; omega⟩
        · rw [HSA.out]; exact HOA.out
        · exact HBA.out
      | true =>
        obtain ⟨wa, wb, wc', we, hW, hwb0, hwb1, hwc⟩ := window_sel t p hvt b4 b5
        have HW := Lib.hid (fun W => (show Calls Tryz.prog 79 #[.agg #[.string t.name, .int .i64 t.cost, .int .i64 t.per], .int .i64 (p.ran + 1)] W _ from hW W))
        have z1 : IntKind.i64.wrap (p.ran + 1) = p.ran + 1 := IntWalk.i64_in _ (by omega)
        have z2 : IntKind.i64.wrap (p.rel + wb) = p.rel + wb := IntWalk.i64_in _ (by omega)
        have HWC := Lib.hid hwc
        clear hW hwc
        go_upto_region 6 with fail
        generalize hw1 : wr.alloc (.cells #[.int .i64 (p.jobs : Int), .bool true, .int .i64 p.rel, .int .i64 p.ran, .int .i64 p.last, .int .i64 p.core] 93) = w1 at *
        obtain ⟨tb, to_, a0, t0, t1, t2⟩ := HTK.out w1 HI3.out
        have hlm := HI3.out.blt
        have hlr : wr.heap.size < w1.heap.size := HP3.out.lt
        clear c0 c1 c2 c3' c4 c5
        have hz := (Gr.refl w1).alloc (.cells #[.int .i64 0, .int .i64 0, .int .i64 0] 128)
        have hI3a := HI3.out.below hz.1
        have hP3a := HP3.out.alloc (.cells #[.int .i64 0, .int .i64 0, .int .i64 0] 128)
        have a0a := (hz.1.cell (p := ⟨gm, 0, none⟩) hlm).trans a0
        have htl : tb < w1.heap.size := cell_lt t0
        have t0a := (hz.1.cell (p := ⟨tb, to_ + k * 3, none⟩) htl).trans t0
        have t1a := (hz.1.cell (p := ⟨tb, to_ + k * 3 + 1, none⟩) htl).trans t1
        have t2a := (hz.1.cell (p := ⟨tb, to_ + k * 3 + 2, none⟩) htl).trans t2
        have p3a := hP3a.six.2.2.2.1
        clear hz hI3a hP3a
        generalize wr.heap.size = gc at *
        clear hw1
        go_cut [5, 6, 7, 16] from 16 to 68 (fun s5 s6 s7 s16 wx => ∃ bs6 : Nat, s5 = .pointer (some ⟨gc, 0, none⟩) ∧ s16 = .int .i64 (k : Int) ∧ s6 = .pointer (some ⟨bs6, 0, none⟩) ∧ s7 = .int .i64 we ∧ Blk wx bs6 128 #[.int .i64 wa, .int .i64 wb, .int .i64 wc'] ∧ Gr w1 wx)
        case first =>
          go_region_law (go_simp; go_at_call 79; (with_reducible refine (HW.out _).mono ?_); rintro e w5 ⟨rfl, hb5⟩; (first | (have hk5 : Blk w5 w1.heap.size 128 #[.int .i64 0, .int .i64 0, .int .i64 0] := Blk.below (show Blk (w1.alloc (.cells #[.int .i64 0, .int .i64 0, .int .i64 0] 128)).drew w1.heap.size _ _ from Blk.new w1 _ _) hb5.1; have HG5 := Lib.hid ((((Gr.refl w1).alloc (.cells #[.int .i64 0, .int .i64 0, .int .i64 0] 128)).drew).trans hb5); obtain ⟨e0, e1, e2⟩ := hk5.three; have g0 := hk5.frozen 0; have g1 := hk5.frozen 1; have g2 := hk5.frozen 2; have HK5 := Lib.hid hk5; clear hk5 hb5) | (have HG5 := Lib.hid (((Gr.refl w1).drew).trans hb5); clear hb5)))
          all_goals
            first
              | (have HS6 := Lib.hid (((HK5.out.set_ 0 (.int .i64 wa)).set_ 1 (.int .i64 wb)).set_ 2 (.int .i64 wc'))
                 have HG6 := Lib.hid (((HG5.out.set (Nat.le_refl _) 0 (.int .i64 wa)).set (Nat.le_refl _) 1 (.int .i64 wb)).set (Nat.le_refl _) 2 (.int .i64 wc'))
                 clear e0 e1 e2 g0 g1 g2 HK5 HG5
                 go_wp2_with fail
                 go_meet
                 exact ⟨_, rfl, rfl, rfl, rfl, HS6.out, HG6.out⟩)
              | (have HS6 := Lib.hid (Blk.new w5 128 #[.int .i64 wa, .int .i64 wb, .int .i64 wc'])
                 have HG6 := Lib.hid (HG5.out.alloc (.cells #[.int .i64 wa, .int .i64 wb, .int .i64 wc'] 128))
                 clear HG5
                 go_wp2_with fail
                 go_meet
                 exact ⟨_, rfl, rfl, rfl, rfl, HS6.out, HG6.out⟩)
        case rest =>
          obtain ⟨bs6, rfl, rfl, rfl, rfl, hS6, hG6⟩ := hcut
          have HS6 := Lib.hid hS6
          have HG6 := Lib.hid hG6
          clear hS6 hG6 t0 t1 t2 t0a t1a t2a a0 a0a p0 p1 p2 p3 p4 p5 p3a hlm htl hlr
          generalize wc = W6 at *
          have hb6 := HBA.out.trans (HG6.out.1.mono HBA.out.size)
          have hi6 := HI3.out.below HG6.out.1
          have hk6 := HP3.out.below HG6.out.1
          have ho6 := own_below HOA.out HG6.out.1
          obtain ⟨tb, to_, a0, t0, t1, t2⟩ := HTK.out W6 hi6
          obtain ⟨_, _, a3, _, _⟩ := hi6.cells
          obtain ⟨_, _, p2, _, _, _⟩ := hk6.six
          obtain ⟨s0, s1, s2⟩ := HS6.out.three
          have HB6 := Lib.hid hb6
          have HO6 := Lib.hid ho6
          have hs6 := hb6.size
          clear hb6 hi6 hk6 ho6 HS6 HG6 HBA HOA HI3 HP3 HTK HW
          rcases HWC.out with ⟨hrc, rfl, rfl, rfl⟩ | ⟨hrc, rfl⟩
          · clear HWC
            have dc : decide (p.ran < t.cost) = true := decide_eq_true hrc
            by_cases hd : p.rel + SL.winR t (p.ran + 1) ≤ (m.slot : Int)
            · have d1 : decide (p.rel + SL.winR t (p.ran + 1) ≤ (m.slot : Int)) = true := decide_eq_true hd
              have HSA := Lib.hid (show AU.overI (k + 1) F = acc ++ [(⟨k, t, p.rel, p.ran + 1⟩ : Cd)] by rw [HSN.out, HFK.out, dc, d1]; rfl)
              clear hd HFK HSN dc hrc
              generalize SL.winR t (p.ran + 1) = wR at *
              go_wp2_with fail
              go_quiet (fail)
              go_wp2_with fail
              have HB7 := Lib.hid (below_drewN HB6.out nq)
              have HO7 : Hid ((W6.drewN nq).ownsRow w.heap.size 132 6 (.slice A3 acc.length c3) acc.length (cdC acc)) := Lib.hid HO6.out
              replace a0 : (W6.drewN nq).cell? ⟨gm, 0, none⟩ = some (.slice (some ⟨tb, to_, none⟩) X.ts.length X.c) := a0
              replace t0 : (W6.drewN nq).cell? ⟨tb, to_ + k * 3, none⟩ = some (.string t.name) := t0
              replace t1 : (W6.drewN nq).cell? ⟨tb, to_ + k * 3 + 1, none⟩ = some (.int .i64 t.cost) := t1
              replace t2 : (W6.drewN nq).cell? ⟨tb, to_ + k * 3 + 2, none⟩ = some (.int .i64 t.per) := t2
              replace p2 : (W6.drewN nq).cell? ⟨gc, 2, none⟩ = some (.int .i64 p.rel) := p2
              replace s0 : (W6.drewN nq).cell? ⟨bs6, 0, none⟩ = some (.int .i64 (p.ran + 1)) := s0
              have hs7 : w.heap.size ≤ (W6.drewN nq).heap.size := hs6
              clear s1 s2 a3 hs6 HB6 HO6
              generalize W6.drewN nq = W7 at *
              have HBA := Lib.hid (HB7.out.drew.alloc (show w.heap.size ≤ W7.drew.heap.size from hs7) (.cells #[.int .i64 (k : Int), .string t.name, .int .i64 t.cost, .int .i64 t.per, .int .i64 p.rel, .int .i64 (p.ran + 1)] 132))
              have HOA : Hid ((W7.drew.alloc (.cells #[.int .i64 (k : Int), .string t.name, .int .i64 t.cost, .int .i64 t.per, .int .i64 p.rel, .int .i64 (p.ran + 1)] 132)).ownsRow w.heap.size 132 6 (.slice A3 acc.length c3) acc.length (cdC acc)) := Lib.hid (World.ownsRow.alloc (show W7.drew.ownsRow w.heap.size 132 6 (.slice A3 acc.length c3) acc.length (cdC acc) from HO7.out) _)
              go_region_law (first | (refine step_append_lies _ (by rfl) _ _ 126 (by rfl) w.heap.size 132 i1 (.agg #[.int .i64 0, .string ⟨#[]⟩, .int .i64 0, .int .i64 0, .int .i64 0, .int .i64 0]) 6 56 Tryz.underlying126 K0.out K1.out K2.out K3.out (by rfl) (by decide) _ _ _ (by rfl) HOA.out ⟨W7.heap.size, 0, none⟩ 1 1 [.int .i64 (k : Int), .string t.name, .int .i64 t.cost, .int .i64 t.per, .int .i64 p.rel, .int .i64 (p.ran + 1)] (by rfl) (by rfl) (World.news_of_block (cs := #[.int .i64 (k : Int), .string t.name, .int .i64 t.cost, .int .i64 t.per, .int .i64 p.rel, .int .i64 (p.ran + 1)]) (heap_alloc_new W7.drew _)) (by intro u hu; simp at hu; rcases hu with rfl | rfl | rfl | rfl | rfl | rfl <;> rfl) (by decide) (by unfold maxLen; omega) (by omega) (by simp; omega) (W7.heap.size + 1) (by simp) ?_; intro g cap w8 hown8 hg8 hat8 hlt8; have hB8 : Below w.heap.size w w8 := Below.grown HBA.out hg8 (by simp; omega) (fun k hk => (HOA.out.lt k hk).1)))
              all_goals
                have HB8 := Lib.hid hB8
                have HR8 := Lib.hid (show w8.ownsRow w.heap.size 132 6 (.slice (some ⟨g, 0, none⟩) (acc.length + 1) cap) (acc ++ [(⟨k, t, p.rel, p.ran + 1⟩ : Cd)]).length (cdC (acc ++ [(⟨k, t, p.rel, p.ran + 1⟩ : Cd)])) from (by
                  have h := hown8
                  simpa [cdC, cdL, cdV] using h))
                clear hown8 hg8 hlt8 hB8 hat8
                go_wp2_with fail
                refine ⟨⟨k + 1, hlt, by simp, ?_, HB8.out⟩, by simp [intOf]; omega⟩
                rw [HSA.out]
                exact HR8.out
            · have d1 : decide (p.rel + SL.winR t (p.ran + 1) ≤ (m.slot : Int)) = false := decide_eq_false hd
              have HSA := Lib.hid (show AU.overI (k + 1) F = acc by rw [HSN.out, HFK.out, dc, d1]; simp)
              clear hd HFK HSN dc hrc
              generalize SL.winR t (p.ran + 1) = wR at *
              go_wp2_with fail
              go_quiet (fail)
              go_wp2_with fail
              refine ⟨⟨k + 1, hlt, by simp, ?_, ?_⟩, by simp [intOf]; omega⟩
              · rw [HSA.out]; exact HO6.out
              · exact below_drewN HB6.out _
          · clear HWC
            have HSA := Lib.hid (show AU.overI (k + 1) F = acc by rw [HSN.out, HFK.out, decide_eq_false hrc]; simp)
            clear HFK HSN hrc
            go_wp2_with fail
            go_quiet (fail)
            go_wp2_with fail
            refine ⟨⟨k + 1, hlt, by simp, ?_, ?_⟩, by simp [intOf]; omega⟩
            · rw [HSA.out]; exact HO6.out
            · exact below_drewN HB6.out _
    · have q0 : ¬ (k : Int) < (X.ts.length : Int) := by omega
      have hke : k = X.ts.length := by omega
      subst hke
      have hac2 : acc = cd := by rw [← HAC.out, HCL.out]
      subst hac2
      have HSO := Lib.hid (sortCd2_any acc HCD.out w.heap.size wr _ HO.out (by omega))
      have HIR := Lib.hid (HI.out.below HB.out)
      have hsl : ch.length = min acc.length X.n := by rw [HSEL.out, List.length_map, List.length_take, (AU.srt_len acc)]; omega
      have HSL := Lib.hid hsl
      clear hsl hown HCL HAC HF HOK HX HO
      go_wp2_with fail
      refine HSO.out.mono ?_
      rintro e w6 ⟨rfl, ho6, hf6, hbe6, _⟩
      have hb6 := hbe6 w.heap.size w HB.out (Nat.le_refl _)
      have HB6 := Lib.hid hb6
      obtain ⟨a1, _, _, _, _⟩ := (HI.out.below hb6).cells
      have hcap : acc.length ≤ c3 := by
        rcases ho6.2 with ⟨e0, h0⟩ | ⟨g, cap, cur, e0, _, _, h0, _⟩
        · injection e0 with _ e1 e2; omega
        · injection e0 with _ e1 e2; omega
      have hs6 := hb6.size
      have hmin : min (acc.length : Int) (X.n : Int) = (ch.length : Int) := by have := HSL.out; omega
      have hchl := HSL.out
      have hcc1 : ch.length ≤ acc.length := by omega
      have hcc2 : ch.length ≤ 4 := by omega
      clear hchl
      have HO6 := Lib.hid ho6
      have HCC := Lib.hid (fun (j : Nat) (c : Cd) (hj : (SL.srt acc)[j]? = some c) (W : World) (hW : Below w6.heap.size w6 W) => (show ∃ g5, A3 = some ⟨g5, 0, none⟩ ∧ W.cell? ⟨g5, j * 6, none⟩ = some (.int .i64 (c.num : Int)) ∧ ∀ q, q < 6 → W.cell? ⟨g5, j * 6 + q, none⟩ = (cdV c)[q]? from by
        have h1 := own_below HO6.out hW
        have hpos : 0 < acc.length := by
          have := (List.getElem?_eq_some_iff.1 hj).1
          rw [AU.srt_len acc] at this
          omega
        obtain ⟨g, cap, hv, _, _, _, hc⟩ := own_cells h1 hpos
        injection hv with hA
        have hall : ∀ q, q < 6 → W.cell? ⟨g, j * 6 + q, none⟩ = (cdV c)[q]? := fun q hq => by
          have h2 := flat_at 6 cdL (fun _ => rfl) (SL.srt acc) j q c hj hq
          have h3 : (cdL c)[q]? = (cdV c)[q]? := by simp [cdL]
          have h4 : q < (cdV c).size := hq
          rw [h3, Array.getElem?_eq_getElem h4] at h2
          rw [Array.getElem?_eq_getElem h4]
          exact hc _ _ h2
        exact ⟨g, hA, hall 0 (by omega), hall⟩))
      clear ho6 hf6 hbe6 hb6 HSO HB HIR HI HO6
      go_wp2_with fail
      go_loopw [8, 81] (fun v i wx => ∃ j : Nat, j ≤ ch.length ∧ i = .int .i64 (j : Int) ∧ wx.ownsRow w6.heap.size 3 1 v j (AU.nats (ch.take j)) ∧ Below w6.heap.size w6 wx) (fun _ i _ => ch.length - (intOf i).toNat)
      case atStart => exact ⟨0, Nat.zero_le _, rfl, World.ownsRow_nil _ _ _ _, Below.refl _ _⟩
      case round =>
        obtain ⟨j, hj, rfl, hown, hbw⟩ := hrel
        obtain ⟨A8, c8, rfl⟩ := own_form hown
        have HO := Lib.hid hown
        have HB := Lib.hid hbw
        have hsw := hbw.size
        by_cases hjl : j < ch.length
        · have q1 : (j : Int) < (ch.length : Int) := by omega
          obtain ⟨c, hc⟩ : ∃ c, (SL.srt acc)[j]? = some c := ⟨_, List.getElem?_eq_getElem (by rw [AU.srt_len]; omega)⟩
          have hci : ch[j]? = some c.num := by rw [HSEL.out, List.getElem?_map, List.getElem?_take, if_pos (by omega), hc]; rfl
          obtain ⟨g5, rfl, x0, hcc⟩ := HCC.out j c hc _ hbw
          have x1 := hcc 1 (by omega)
          have x2 := hcc 2 (by omega)
          have x3 := hcc 3 (by omega)
          have x4 := hcc 4 (by omega)
          have x5 := hcc 5 (by omega)
          simp only [cdV, List.getElem?_toArray, List.getElem?_cons_zero, List.getElem?_cons_succ] at x1 x2 x3 x4 x5
          have HTK := Lib.hid (show ch.take (j + 1) = ch.take j ++ [c.num] from by
            obtain ⟨h1, h2⟩ := List.getElem?_eq_some_iff.1 hci
            rw [List.take_succ_eq_append_getElem h1, h2])
          have b0 : (wr.alloc (.cells #[.int .i64 (c.num : Int), .string c.tk.name, .int .i64 c.tk.cost, .int .i64 c.tk.per, .int .i64 c.rel, .int .i64 c.idx] 132)).cell? ⟨wr.heap.size, 0, none⟩ = some (.int .i64 (c.num : Int)) := (Blk.new wr 132 #[.int .i64 (c.num : Int), .string c.tk.name, .int .i64 c.tk.cost, .int .i64 c.tk.per, .int .i64 c.rel, .int .i64 c.idx]).cell 0
          clear hcc hown hbw hc hci HCC HSL
          go_wp2_with (at_builtin; refine wpList_append_own _ rfl _ _ 40 rfl w6.heap.size 3 i2 (.int .i64 0) 1 8 Tryz.underlying40 L0.out L1.out L2.out L3.out rfl (by decide) _ _ _ rfl ((HO.out.alloc _).alloc _) ⟨wr.heap.size + 1, 0, none⟩ 1 1 [.int .i64 (c.num : Int)] rfl rfl ?c1 ?c2 ?c3 ?c4 ?c5 ?_)
          case c1 => exact World.news_of_block (cs := #[.int .i64 (c.num : Int)]) (blk_second wr _ _ _ _)
          case c2 => intro u hu; simp at hu; subst hu; rfl
          case c3 => unfold maxLen; omega
          case c4 => omega
          case c5 => simp; omega
          intro v' w7 hown7 hg7 _
          have hlt7 := ((HO.out.alloc (.cells #[.int .i64 (c.num : Int), .string c.tk.name, .int .i64 c.tk.cost, .int .i64 c.tk.per, .int .i64 c.rel, .int .i64 c.idx] 132)).alloc (.cells #[.int .i64 (c.num : Int)] 3)).lt
          have HB7 := Lib.hid (show Below w6.heap.size w6 w7 from Below.grown ((HB.out.alloc hsw (.cells #[.int .i64 (c.num : Int), .string c.tk.name, .int .i64 c.tk.cost, .int .i64 c.tk.per, .int .i64 c.rel, .int .i64 c.idx] 132)).alloc (by simp; omega) (.cells #[.int .i64 (c.num : Int)] 3)) hg7 (by simp; omega) (fun k hk => (hlt7 k hk).1))
          have HR7 := Lib.hid (show w7.ownsRow w6.heap.size 3 1 v' (j + 1) (AU.nats (ch.take (j + 1))) from (by
            rw [HTK.out]
            have h := hown7
            simpa [AU.nats] using h))
          clear hown7 hg7 hlt7 HTK b0 x0 x1 x2 x3 x4 x5
          go_wp2_with fail
          exact ⟨⟨j + 1, hjl, by simp, HR7.out, HB7.out⟩, by simp [intOf]; omega⟩
        · have q1 : ¬ (j : Int) < (ch.length : Int) := by omega
          have hje : j = ch.length := by omega
          have hown2 := HO.out
          rw [List.take_of_length_le (show ch.length ≤ j by omega)] at hown2
          have HO2 := Lib.hid hown2
          clear hown hown2 hbw HO HCC HSL
          subst hje
          go_wp2_with fail
          go_ret
          exact ⟨_, rfl, own_low HO2.out hs6, HB6.out.trans (HB.out.mono hs6)⟩
end
end Go.Proofs.YtpmbhdheeaejgaaGreatDoor
