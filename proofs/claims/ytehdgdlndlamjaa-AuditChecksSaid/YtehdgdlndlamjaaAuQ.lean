/- The reference's model in memory; late and cut-off events. -/
import Derived.Test.YtehdgdlndlamjaaAuP
import Derived.Test.YtehdgdlndlamjaaAuO
import Derived.Deep.CutRange
namespace Go.Proofs.Ytehdgdlndlamjaa
open Go.RowKit Go.Maps Go.Sort Go.Lib
open SL (Tk Cd)
open AU (Pr Rq Ev Mo)
/-- A task's job as the reference keeps it: the last slot and its core are those of the auditor's only where it ran. -/
structure Jr where
  p : Pr
  la : Int
  co : Int
def jrL (x : Jr) : List Value := [.int .i64 (x.p.jobs : Int), .int .i64 x.p.rel, .int .i64 x.p.ran, .int .i64 x.la, .int .i64 x.co, .bool x.p.live]
def jrC (l : List Jr) : Array Value := (l.flatMap jrL).toArray
structure AlJ (js : List Jr) (ps : List Pr) : Prop where
  map : js.map (·.p) = ps
  same : ∀ x ∈ js, 0 < x.p.ran → x.la = x.p.last ∧ x.co = x.p.core
theorem AlJ.at {js : List Jr} {ps : List Pr} (h : AlJ js ps) {k : Nat} {p : Pr} (hp : ps[k]? = some p) : ∃ x, js[k]? = some x ∧ x.p = p ∧ (0 < p.ran → x.la = p.last ∧ x.co = p.core) := by
  rw [← h.map, List.getElem?_map] at hp
  obtain ⟨x, h1, h2⟩ := Option.map_eq_some_iff.1 hp
  exact ⟨x, h1, h2, fun hr => by rw [← h2] at hr ⊢; exact h.same x (List.mem_of_getElem? h1) hr⟩
def reL (slot kind : Nat) (r : Rq) : List Value := [.int .i64 (slot : Int), .int .i64 r.core, .int .i64 (r.task : Int), .int .i64 r.job, .int .u8 (kind : Int), .int .i64 r.value]
def reC (slot kind : Nat) (l : List Rq) : List Value := l.flatMap (reL slot kind)
theorem reC_snoc (slot kind : Nat) (l : List Rq) (r : Rq) : reC slot kind (l ++ [r]) = reC slot kind l ++ reL slot kind r := by simp [reC]
theorem infoRe : (Try.prog.info? 54).map (fun i => (i.zero, i.size, i.bytes)) = some (some (.agg #[.int .i64 0, .int .i64 0, .int .i64 0, .int .i64 0, .int .u8 0, .int .i64 0]), 6, 48) := by kernel_rfl
theorem jr_cells {W : World} {g : Nat} {js : List Jr} (h : Blk W g 73 (jrC js)) {k : Nat} {x : Jr} (hk : js[k]? = some x) :
    W.cell? ⟨g, k * 6, none⟩ = some (.int .i64 (x.p.jobs : Int)) ∧ W.cell? ⟨g, k * 6 + 1, none⟩ = some (.int .i64 x.p.rel) ∧ W.cell? ⟨g, k * 6 + 2, none⟩ = some (.int .i64 x.p.ran) ∧ W.cell? ⟨g, k * 6 + 3, none⟩ = some (.int .i64 x.la) ∧ W.cell? ⟨g, k * 6 + 4, none⟩ = some (.int .i64 x.co) ∧ W.cell? ⟨g, k * 6 + 5, none⟩ = some (.bool x.p.live) := by
  have hh : ∀ m, m < 6 → W.cell? ⟨g, k * 6 + m, none⟩ = (jrL x)[m]? := fun m hm => by
    rw [h.cell (k * 6 + m)]
    unfold jrC
    rw [List.getElem?_toArray]
    exact flat_at 6 jrL (fun _ => rfl) js k m x hk hm
  exact ⟨hh 0 (by omega), hh 1 (by omega), hh 2 (by omega), hh 3 (by omega), hh 4 (by omega), hh 5 (by omega)⟩
/-- The reference's model in memory. -/
structure RfInv (B : World) (X : Aud) (gm gj : Nat) (m : Mo) (W : World) : Prop where
  be : Below B.heap.size B W
  lom : B.heap.size ≤ gm
  loj : B.heap.size ≤ gj
  bj : ∃ js : List Jr, AlJ js m.ps ∧ Blk W gj 73 (jrC js)
  bm : ∃ A c kind, Blk W gm 57 #[X.tv, .int .i64 (X.n : Int), .slice (some ⟨gj, 0, none⟩) X.ts.length X.ts.length, .int .i64 (m.slot : Int), .int .i64 (m.phase : Int), .slice A m.req.length c, .int .i64 m.last] ∧ RowT W 54 A (reC m.slot kind m.req) ∧ m.req.length ≤ c ∧ (m.req ≠ [] → (m.phase = 1 ∧ kind = 6) ∨ (m.phase = 3 ∧ kind = 2) ∨ (m.phase = 5 ∧ kind = 5))
theorem RfInv.below {B : World} {X : Aud} {gm gj : Nat} {m : Mo} {W W' : World} (h : RfInv B X gm gj m W) (hb : Below W.heap.size W W') : RfInv B X gm gj m W' := by
  obtain ⟨A, c, kind, h1, h2, h3, h4⟩ := h.bm
  obtain ⟨js, g1, g2⟩ := h.bj
  exact ⟨h.be.trans (hb.mono h.be.size), h.lom, h.loj, ⟨js, g1, g2.below hb⟩, A, c, kind, h1.below hb, h2.below hb, h3, h4⟩
theorem RfInv.cells {B : World} {X : Aud} {gm gj : Nat} {m : Mo} {W : World} (h : RfInv B X gm gj m W) :
    W.cell? ⟨gm, 0, none⟩ = some (.slice X.A X.ts.length X.c) ∧ W.cell? ⟨gm, 1, none⟩ = some (.int .i64 (X.n : Int)) ∧ W.cell? ⟨gm, 2, none⟩ = some (.slice (some ⟨gj, 0, none⟩) X.ts.length X.ts.length) ∧ W.cell? ⟨gm, 3, none⟩ = some (.int .i64 (m.slot : Int)) ∧ W.cell? ⟨gm, 4, none⟩ = some (.int .i64 (m.phase : Int)) ∧ W.cell? ⟨gm, 6, none⟩ = some (.int .i64 m.last) ∧ gm < W.heap.size := by
  obtain ⟨A, c, kd, hbm, _⟩ := h.bm
  exact ⟨hbm.cell 0, hbm.cell 1, hbm.cell 2, hbm.cell 3, hbm.cell 4, hbm.cell 6, hbm.lt⟩
theorem RfInv.task {B : World} {X : Aud} (hx : AudOk B X) {gm gj : Nat} {m : Mo} {W : World} (h : RfInv B X gm gj m W) {k : Nat} {t : Tk} (ht : X.ts[k]? = some t) :
    ∃ tb to_, X.A = some ⟨tb, to_, none⟩ ∧ W.cell? ⟨gm, 0, none⟩ = some (.slice (some ⟨tb, to_, none⟩) X.ts.length X.c) ∧ W.cell? ⟨tb, to_ + k * 3, none⟩ = some (.string t.name) ∧ W.cell? ⟨tb, to_ + k * 3 + 1, none⟩ = some (.int .i64 t.cost) ∧ W.cell? ⟨tb, to_ + k * 3 + 2, none⟩ = some (.int .i64 t.per) := by
  obtain ⟨tb, to_, hA, _, hT⟩ := hx.task ht
  obtain ⟨a0, _⟩ := h.cells
  rw [hA] at a0
  exact ⟨tb, to_, hA, a0, hT W h.be⟩
/-- The cut-off job of a core, at a place. -/
def AU.cutG (ts : List Tk) (ps : List Pr) (slot c i : Nat) : Option Rq := match AU.cutF ts ps slot i with
  | some r => if r.core == (c : Int) then some r else none
  | none => none
theorem AU.overI_filter {α : Type} (f : Nat → Option α) (q : α → Bool) : ∀ n, (AU.overI n f).filter q = AU.overI n (fun i => match f i with
    | some r => if q r then some r else none
    | none => none)
  | 0 => rfl
  | n + 1 => by
    rw [AU.overI_succ, AU.overI_succ, List.filter_append, AU.overI_filter f q n]
    congr 1
    cases f n with
    | none => rfl
    | some r => cases h : q r <;> simp [h]
/-- One list behind another. -/
def AU.preL {α : Type} (f : Nat → List α) (n : Nat) : List α := (List.range n).flatMap f
theorem AU.preL_zero {α : Type} (f : Nat → List α) : AU.preL f 0 = [] := rfl
theorem AU.cutL_eq (ts : List Tk) (ps : List Pr) (slot n : Nat) : AU.cutL ts ps slot n = AU.preL (fun c => AU.overI ps.length (AU.cutG ts ps slot c)) n := by
  unfold AU.cutL AU.byCore AU.preL
  congr 1
  funext c
  rw [AU.overI_filter]
  congr 1
  funext i
  unfold AU.cutG
  cases AU.cutF ts ps slot i <;> rfl
section
set_option maxHeartbeats 4000000
set_option maxRecDepth 100000
theorem rlate_any {B : World} {X : Aud} (hx : AudOk B X) {gm gj : Nat} {m : Mo} {w : World} (hI : RfInv B X gm gj m w) (hph : m.phase = 1) (hl : m.ps.length = X.ts.length) (hok : AU.OkPs X.n m.slot 1000000000 X.ts m.ps) (hs : m.slot ≤ 100000) :
    Calls Try.prog 26 #[.pointer (some ⟨gm, 0, none⟩)] w fun e w' => ∃ v, e = .returned v ∧ w'.ownsRow w.heap.size 54 6 v (AU.lateL X.ts m.ps m.slot).length (reC m.slot 6 (AU.lateL X.ts m.ps m.slot)) ∧ Below w.heap.size w w' := by
  have hnot : ∀ (x : Bool) (w : World), (Op.unary .not (.bool x)).run Try.prog w = .ok (.bool (!x)) w := fun _ _ => rfl
  obtain ⟨i1, ki, kz0, kz1, kz2⟩ := info_parts infoRe
  have K0 := Lib.hid ki
  have K1 := Lib.hid kz0
  have K2 := Lib.hid kz1
  have K3 := Lib.hid kz2
  have HX := Lib.hid hx
  have HI := Lib.hid hI
  have HOK := Lib.hid hok
  have HL := Lib.hid hl
  have h40 := hx.len
  have hn4 := hx.n4
  obtain ⟨a0, a1, a2, a3, a4, a6, hlm⟩ := hI.cells
  rw [hph] at a4
  unfold AU.lateL
  rw [hl]
  have hF : ∀ (k : Nat) (t : Tk) (p : Pr), X.ts[k]? = some t → m.ps[k]? = some p → AU.lateF X.ts m.ps m.slot k = if AU.lateB t p m.slot then some ⟨-1, k, (p.jobs : Int) - 1, p.ran⟩ else none := fun k t p h1 h2 => by
    unfold AU.lateF
    rw [h1, h2]
  have HF := Lib.hid hF
  generalize AU.lateF X.ts m.ps m.slot = F at *
  clear ki kz0 kz1 kz2 hI hx hok hl hF hph
  go_enter Try.func26, Try.ntmps26
  go_wp2_with fail
  clear a0 a1 a2 a3 a4 a6 hlm
  go_loopw [3, 4] (fun v i wr => ∃ k : Nat, k ≤ X.ts.length ∧ i = .int .i64 (k : Int) ∧ wr.ownsRow w.heap.size 54 6 v (AU.overI k F).length (reC m.slot 6 (AU.overI k F)) ∧ Below w.heap.size w wr) (fun _ i _ => X.ts.length - (intOf i).toNat)
  case atStart => exact ⟨0, Nat.zero_le _, rfl, World.ownsRow_nil _ _ _ _, Below.refl _ _⟩
  case round =>
    obtain ⟨k, hk, rfl, hown, hbw⟩ := hrel
    obtain ⟨A3, c3, rfl⟩ := own_form hown
    have HO := Lib.hid hown
    have HB := Lib.hid hbw
    have hsw := hbw.size
    have HS := AU.overI_succ k F
    have hln := AU.overI_len k F
    generalize hacc : AU.overI k F = acc at *
    have HAC := Lib.hid hacc
    clear hacc
    have HSN := Lib.hid HS
    clear HS
    have hI2 := HI.out.below hbw
    obtain ⟨a0, _, a2, _, _, _, hlm⟩ := hI2.cells
    by_cases hlt : k < X.ts.length
    · have q0 : (k : Int) < (X.ts.length : Int) := by omega
      obtain ⟨t, ht⟩ : ∃ t, X.ts[k]? = some t := ⟨_, List.getElem?_eq_getElem hlt⟩
      obtain ⟨p, hp⟩ : ∃ p, m.ps[k]? = some p := ⟨_, List.getElem?_eq_getElem (by rw [HL.out]; exact hlt)⟩
      have hFk := HF.out k t p ht hp
      obtain ⟨b1, b2, b3, b4, b5, b6, b7⟩ := HOK.out k t p ht hp
      obtain ⟨v1, v2, v3⟩ := SL.okTk_iff.1 (HX.out.ok t (List.mem_of_getElem? ht))
      obtain ⟨js, hal, hbj⟩ := hI2.bj
      obtain ⟨x, hxk, hxp, hxs⟩ := hal.at hp
      obtain ⟨c0, c1, c2, c3', c4, c5⟩ := jr_cells hbj hxk
      subst hxp
      have hba := ((Gr.refl wr).alloc (.cells #[.int .i64 (x.p.jobs : Int), .int .i64 x.p.rel, .int .i64 x.p.ran, .int .i64 x.la, .int .i64 x.co, .bool x.p.live] 73)).1
      have hI3 := hI2.below hba
      obtain ⟨tb, to_, hA, d0', _, t1, t2⟩ := hI3.task HX.out ht
      obtain ⟨_, _, _, d3, _, _, hlm3⟩ := hI3.cells
      rw [hA] at a0
      obtain ⟨p0, p1, p2, p3, p4, p5⟩ := (Blk.new wr 73 #[.int .i64 (x.p.jobs : Int), .int .i64 x.p.rel, .int .i64 x.p.ran, .int .i64 x.la, .int .i64 x.co, .bool x.p.live]).six
      have HI1 := Lib.hid hI3
      have HP1 := Lib.hid (Blk.new wr 73 #[.int .i64 (x.p.jobs : Int), .int .i64 x.p.rel, .int .i64 x.p.ran, .int .i64 x.la, .int .i64 x.co, .bool x.p.live])
      have HOA := Lib.hid (HO.out.alloc (.cells #[.int .i64 (x.p.jobs : Int), .int .i64 x.p.rel, .int .i64 x.p.ran, .int .i64 x.la, .int .i64 x.co, .bool x.p.live] 73))
      have HBA := Lib.hid (HB.out.alloc hsw (.cells #[.int .i64 (x.p.jobs : Int), .int .i64 x.p.rel, .int .i64 x.p.ran, .int .i64 x.la, .int .i64 x.co, .bool x.p.live] 73))
      have hlb : AU.lateB t x.p m.slot = (x.p.live && decide (x.p.rel + t.per ≤ (m.slot : Int))) := rfl
      rw [hlb] at hFk
      have HFK := Lib.hid hFk
      have z1 : IntKind.i64.wrap (x.p.rel + t.per) = x.p.rel + t.per := IntWalk.i64_in _ (by omega)
      clear hown hbw hI2 hI3 hba hFk hlb hp ht hal hbj hxk hxs hA
      generalize x.p.live = lv at *
      go_upto_region 8 with fail
      generalize wr.alloc (.cells #[.int .i64 (x.p.jobs : Int), .int .i64 x.p.rel, .int .i64 x.p.ran, .int .i64 x.la, .int .i64 x.co, .bool lv] 73) = w1 at *
      clear c0 c1 c2 c3' c4 c5 a0 a2 hlm
      cases lv with
      | false =>
        have HSA := Lib.hid (show AU.overI (k + 1) F = acc by rw [HSN.out, HFK.out]; simp)
        clear HFK HSN HI1 HP1
        go_quiet (fail)
        go_wp2_with fail
        refine ⟨⟨k + 1, hlt, by simp, ?_, ?_⟩, by simp [intOf]; omega⟩
        · rw [HSA.out]; exact HOA.out
        · exact below_drewN HBA.out _
      | true =>
        by_cases hd : x.p.rel + t.per ≤ (m.slot : Int)
        · have d1 : decide (x.p.rel + t.per ≤ (m.slot : Int)) = true := decide_eq_true hd
          have HSA := Lib.hid (show AU.overI (k + 1) F = acc ++ [(⟨-1, k, (x.p.jobs : Int) - 1, x.p.ran⟩ : Rq)] by rw [HSN.out, HFK.out, d1]; rfl)
          clear HFK HSN hd
          go_quiet (fail)
          have HB7 := Lib.hid (below_drewN HBA.out nq)
          have HO7 : Hid ((w1.drewN nq).ownsRow w.heap.size 54 6 (.slice A3 acc.length c3) acc.length (reC m.slot 6 acc)) := Lib.hid HOA.out
          have hI7 := HI1.out.below ((Gr.refl w1).drewN nq).1
          obtain ⟨_, _, _, b3, _, _, hlm7⟩ := hI7.cells
          obtain ⟨y0, _, y2, _, _, _⟩ := (HP1.out.drewN nq).six
          have hs7 := HB7.out.size
          have z5 : IntKind.i64.wrap ((x.p.jobs : Int) - 1) = (x.p.jobs : Int) - 1 := IntWalk.i64_in _ (by omega)
          clear hI7 HBA HOA HI1 HP1
          generalize w1.drewN nq = w7 at *
          have HBX := Lib.hid (HB7.out.drew.alloc (show w.heap.size ≤ w7.drew.heap.size from hs7) (.cells #[.int .i64 (m.slot : Int), .int .i64 (-1), .int .i64 (k : Int), .int .i64 ((x.p.jobs : Int) - 1), .int .u8 6, .int .i64 x.p.ran] 54))
          have HOX : Hid ((w7.drew.alloc (.cells #[.int .i64 (m.slot : Int), .int .i64 (-1), .int .i64 (k : Int), .int .i64 ((x.p.jobs : Int) - 1), .int .u8 6, .int .i64 x.p.ran] 54)).ownsRow w.heap.size 54 6 (.slice A3 acc.length c3) acc.length (reC m.slot 6 acc)) := Lib.hid (World.ownsRow.alloc (show w7.drew.ownsRow w.heap.size 54 6 (.slice A3 acc.length c3) acc.length (reC m.slot 6 acc) from HO7.out) _)
          go_wp2_with fail
          go_region_law (first | (refine step_append_lies _ (by rfl) _ _ 32 (by rfl) w.heap.size 54 i1 (.agg #[.int .i64 0, .int .i64 0, .int .i64 0, .int .i64 0, .int .u8 0, .int .i64 0]) 6 48 Try.underlying32 K0.out K1.out K2.out K3.out (by rfl) (by decide) _ _ _ (by rfl) HOX.out ⟨w7.heap.size, 0, none⟩ 1 1 [.int .i64 (m.slot : Int), .int .i64 (-1), .int .i64 (k : Int), .int .i64 ((x.p.jobs : Int) - 1), .int .u8 6, .int .i64 x.p.ran] (by rfl) (by rfl) (World.news_of_block (cs := #[.int .i64 (m.slot : Int), .int .i64 (-1), .int .i64 (k : Int), .int .i64 ((x.p.jobs : Int) - 1), .int .u8 6, .int .i64 x.p.ran]) (heap_alloc_new w7.drew _)) (by intro u hu; simp at hu; rcases hu with rfl | rfl | rfl | rfl | rfl | rfl <;> rfl) (by decide) (by unfold maxLen; omega) (by omega) (by simp; omega) (w7.heap.size + 1) (by simp) ?_; intro g cap w8 hown8 hg8 hat8 hlt8; have hB8 : Below w.heap.size w w8 := Below.grown HBX.out hg8 (by simp; omega) (fun k hk => (HOX.out.lt k hk).1)))
          all_goals
            have HB8 := Lib.hid hB8
            have HR8 := Lib.hid (show w8.ownsRow w.heap.size 54 6 (.slice (some ⟨g, 0, none⟩) (acc.length + 1) cap) (acc ++ [(⟨(-1), k, (x.p.jobs : Int) - 1, x.p.ran⟩ : Rq)]).length (reC m.slot 6 (acc ++ [(⟨(-1), k, (x.p.jobs : Int) - 1, x.p.ran⟩ : Rq)])) from (by
              rw [reC_snoc]
              have h := hown8
              simpa [reL] using h))
            clear hown8 hg8 hlt8 hB8 hat8
            go_wp2_with fail
            refine ⟨⟨k + 1, hlt, by simp, ?_, HB8.out⟩, by simp [intOf]; omega⟩
            rw [HSA.out]
            exact HR8.out
        · have d1 : decide (x.p.rel + t.per ≤ (m.slot : Int)) = false := decide_eq_false hd
          clear hd
          have HSA := Lib.hid (show AU.overI (k + 1) F = acc by rw [HSN.out, HFK.out, d1]; simp)
          clear HFK HSN HI1 HP1
          go_quiet (fail)
          go_wp2_with fail
          refine ⟨⟨k + 1, hlt, by simp, ?_, ?_⟩, by simp [intOf]; omega⟩
          · rw [HSA.out]; exact HOA.out
          · exact below_drewN HBA.out _
    · have q0 : ¬ (k : Int) < (X.ts.length : Int) := by omega
      have hke : k = X.ts.length := by omega
      subst hke
      clear hown hbw HF HI HX HOK
      go_wp2_with fail
      go_ret
      rw [HAC.out]
      exact ⟨_, rfl, HO.out, HB.out⟩
theorem rnone_any {B : World} {X : Aud} {gm gj : Nat} {m : Mo} {w : World} (hI : RfInv B X gm gj m w) (hph : m.phase = 2 ∨ m.phase = 4) :
    Calls Try.prog 26 #[.pointer (some ⟨gm, 0, none⟩)] w fun e w' => e = .returned (.slice none 0 0) ∧ w' = w := by
  obtain ⟨a0, a1, a2, a3, a4, a6, hlm⟩ := hI.cells
  clear hI
  rcases hph with hph | hph
  · rw [hph] at a4
    clear hph
    go_enter Try.func26, Try.ntmps26
    go_wp2_with fail
    go_ret
    exact ⟨rfl, rfl⟩
  · rw [hph] at a4
    clear hph
    go_enter Try.func26, Try.ntmps26
    go_wp2_with fail
    go_ret
    exact ⟨rfl, rfl⟩
end
end Go.Proofs.Ytehdgdlndlamjaa
