/- The walk of Simulate. -/
import Derived.Test.YtdlbokcndbbgnaaSlH
import Derived.StillTailTactics
namespace Go.Proofs.Ytdlbokcndbbgnaa
open Go.RowKit Go.Maps Go.Sort Go.Lib
open SL (Tk Jb Ms Cd)
theorem infoInts : (Try.prog.info? 35).map (fun i => (i.zero, i.size, i.bytes)) = some (some (.slice none 0 0), 1, 24) := by kernel_rfl
theorem infoInt : (Try.prog.info? 3).map (fun i => (i.zero, i.size, i.bytes)) = some (some (.int .i64 0), 1, 8) := by kernel_rfl
/-- Between two slots. -/
def SimRel (B : World) (M : Mdl) (gm gj gs n cN : Nat) (R : List (List Nat) × List Jb × List Ms) (iv : Value) (wr : World) : Prop :=
  ∃ (t : Nat) (js : List Jb) (mv : Value) (ms : List Ms) (S : List (List Nat)), t ≤ n ∧ iv = .int .i64 (t : Int) ∧ MInv B M gm gj js mv ms wr ∧ SchedS wr gs n t S ∧ ms.length ≤ 40 * t ∧
    S ++ (SL.simS M.ts M.rs cN (n - t) t js).1 = R.1 ∧ (SL.simS M.ts M.rs cN (n - t) t js).2.1 = R.2.1 ∧ ms ++ (SL.simS M.ts M.rs cN (n - t) t js).2.2 = R.2.2
def smT : List TypeId := beT ++ [68, 35]
def inT : List TypeId := [72, 35, 3]
/-- Within a slot: i of the chosen tasks have been given their slot. -/
structure InInv (B : World) (M : Mdl) (gm gj gs t : Nat) (vs : Array Value) (js1 : List Jb) (ch : List Nat) (mv1 : Value) (ms1 : List Ms) (W1 W6 : World) (i : Nat) (rv : Value) (wr : World) : Prop where
  mi : MInv B M gm gj (SL.bump js1 (ch.take i)) mv1 ms1 wr
  ow : wr.ownsRow W1.heap.size 3 1 rv i (natI (ch.take i))
  bg : Blk wr gs 35 (vs.setIfInBounds t rv)
  f1 : FxT smT W1 wr
  f6 : FxT inT W6 wr
  lo : B.heap.size ≤ gs
  b1 : B.heap.size ≤ W1.heap.size
theorem own_base {w : World} {base base' : Nat} {e : TypeId} {size : Nat} {v : Value} {n : Nat} {xs : List Value} (h : w.ownsRow base e size v n xs) (hb : base' ≤ base) : w.ownsRow base' e size v n xs := by
  refine ⟨h.1, ?_⟩
  rcases h.2 with h1 | ⟨g, cap, cur, h1, h2, h3⟩
  · exact .inl h1
  · exact .inr ⟨g, cap, cur, h1, Nat.le_trans hb h2, h3⟩
theorem set_set (vs : Array Value) (t : Nat) (a b : Value) : (vs.setIfInBounds t a).setIfInBounds t b = vs.setIfInBounds t b := by
  apply Array.ext_getElem?
  intro i
  simp only [Array.getElem?_setIfInBounds, Array.size_setIfInBounds]
  split <;> rfl
theorem set_self (vs : Array Value) (t : Nat) (a : Value) (h : vs[t]? = some a) : vs.setIfInBounds t a = vs := by
  apply Array.ext_getElem?
  intro i
  rw [Array.getElem?_setIfInBounds]
  obtain ⟨h1, h2⟩ := Array.getElem?_eq_some_iff.1 h
  split
  · rename_i h3; subst h3; rw [h]
  · rfl
theorem InInv.grew {B : World} {M : Mdl} {gm gj gs t : Nat} {vs : Array Value} {js1 : List Jb} {ch : List Nat} {mv1 : Value} {ms1 : List Ms} {W1 W6 : World} {i : Nat} {rv : Value} {wr : World} (h : InInv B M gm gj gs t vs js1 ch mv1 ms1 W1 W6 i rv wr) {cc : Array Value} {x : Value} {w7 : World}
    (hg : (((wr.alloc (.cells cc 68)).alloc (.cells #[x] 3)).drew).grownBy w7 rv.ownBlock) :
    Blk w7 gs 35 (vs.setIfInBounds t rv) ∧ FxT [3] wr w7 ∧ Blk w7 wr.heap.size 68 cc ∧ Below B.heap.size B w7 ∧ FxT smT W1 w7 := by
  have ha := (h.ow.alloc (.cells cc 68))
  have ha2 : ((wr.alloc (.cells cc 68)).alloc (.cells #[x] 3)).drew.ownsRow W1.heap.size 3 1 rv i (natI (ch.take i)) := World.ownsRow.alloc ha _
  have hfa : FxT [3] wr ((wr.alloc (.cells cc 68)).alloc (.cells #[x] 3)).drew := FxT.drewN (((FxT.refl [3] wr).alloc (.cells cc 68)).alloc _) 1
  have hf := hfa.grown hg (own_row ha2 (by simp))
  have hk : Blk ((wr.alloc (.cells cc 68)).alloc (.cells #[x] 3)).drew wr.heap.size 68 cc := Blk.drewN (Blk.alloc (Blk.new wr 68 cc) _) 1
  have hf2 : FxT [3] ((wr.alloc (.cells cc 68)).alloc (.cells #[x] 3)).drew w7 := (FxT.refl _ _).grown hg (own_row ha2 (by simp))
  refine ⟨h.bg.fx hf (by decide), hf, hk.fx hf2 (by decide), ?_, ?_⟩
  · have hba : Below B.heap.size B ((wr.alloc (.cells cc 68)).alloc (.cells #[x] 3)).drew := ((h.mi.be.alloc h.mi.be.size _).alloc (by have := h.mi.be.size; simp; omega) _).drew
    exact hba.grown hg (by have := h.mi.be.size; simp; omega) (fun k hk => Nat.le_trans h.b1 (ha2.lt k hk).1)
  · have hf1 : FxT smT W1 ((wr.alloc (.cells cc 68)).alloc (.cells #[x] 3)).drew := FxT.drewN ((h.f1.alloc _).alloc _) 1
    exact hf1.grownNew hg (fun k hk => (ha2.lt k hk).1)
theorem InInv.put {B : World} {M : Mdl} {gm gj gs t : Nat} {vs : Array Value} {js1 : List Jb} {ch : List Nat} {mv1 : Value} {ms1 : List Ms} {W1 W6 : World} {i : Nat} {rv : Value} {wr : World} (h : InInv B M gm gj gs t vs js1 ch mv1 ms1 W1 W6 i rv wr) {cc : Array Value} {x v' : Value} {w7 : World}
    (hg : (((wr.alloc (.cells cc 68)).alloc (.cells #[x] 3)).drew).grownBy w7 rv.ownBlock) :
    MInv B M gm gj (SL.bump js1 (ch.take i)) mv1 ms1 (w7.setCell ⟨gs, t, none⟩ v') ∧ Blk (w7.setCell ⟨gs, t, none⟩ v') gs 35 (vs.setIfInBounds t v') ∧ FxT smT W1 (w7.setCell ⟨gs, t, none⟩ v') ∧ FxT inT W6 (w7.setCell ⟨gs, t, none⟩ v') ∧ Blk (w7.setCell ⟨gs, t, none⟩ v') wr.heap.size 68 cc := by
  obtain ⟨a, b, c, d, e⟩ := h.grew hg
  have hb8 : FxT [3, 35] wr (w7.setCell ⟨gs, t, none⟩ v') := (b.mono (by simp)).set a (by simp) t v'
  refine ⟨h.mi.fx hb8 (d.setCell (p := ⟨gs, t, none⟩) h.lo v') (by decide) (by decide) (by decide), ?_, e.set a (by decide) t v', ?_, ?_⟩
  · have := a.set_ t v'
    rw [set_set] at this
    exact this
  · exact h.f6.trans (hb8.mono (by decide))
  · exact c.far (p := ⟨gs, t, none⟩) (blk_ne c a (by decide)) v'
theorem simS_step {ts : List Tk} {rs : List (List Int)} {cN n t : Nat} {js : List Jb} (h : t < n) : SL.simS ts rs cN (n - t) t js =
    (SL.rowOf (SL.chosen ts cN t (SL.begJs ts rs t js)) :: (SL.simS ts rs cN (n - (t + 1)) (t + 1) (SL.bump (SL.begJs ts rs t js) (SL.chosen ts cN t (SL.begJs ts rs t js)))).1,
     (SL.simS ts rs cN (n - (t + 1)) (t + 1) (SL.bump (SL.begJs ts rs t js) (SL.chosen ts cN t (SL.begJs ts rs t js)))).2.1,
     SL.begMs ts t 0 js ++ (SL.simS ts rs cN (n - (t + 1)) (t + 1) (SL.bump (SL.begJs ts rs t js) (SL.chosen ts cN t (SL.begJs ts rs t js)))).2.2) := by
  rw [show n - t = (n - (t + 1)) + 1 from by omega, SL.simS]
section
set_option maxHeartbeats 4000000
set_option maxRecDepth 100000
theorem simulate_any (M : Mdl) (cN n : Nat) (w : World) (hmc : MC w M) (hv : SL.valid M.ts cN M.rs = true) (hx : ∀ r ∈ M.rs, r.length ≤ maxLen ∧ ∀ x ∈ r, x ≤ 9223372036854775807) (hrl : M.rs.length ≤ maxLen) (hc8 : cN ≤ 8) (hn : n ≤ 100000) :
    Calls Try.prog 11 #[M.tv, .int .i64 (cN : Int), M.rv, .int .i64 (n : Int)] w fun e w' => ∃ gs mv, e = .returned (.tuple #[.slice (some ⟨gs, 0, none⟩) n n, mv, .int .i64 0]) ∧ w.heap.size ≤ gs ∧ SchedS w' gs n n (SL.simulate M.ts M.rs cN n).1 ∧
      w'.ownsRow w.heap.size 88 3 mv (SL.simulate M.ts M.rs cN n).2.length (msC (SL.simulate M.ts M.rs cN n).2) ∧ Below w.heap.size w w' := by
  have hnot : ∀ (x : Bool) (w : World), (Op.unary .not (.bool x)).run Try.prog w = .ok (.bool (!x)) w := fun _ _ => rfl
  have HVA := Lib.hid (valid_any M cN w hmc.row hmc.rel hx hrl)
  rw [hv] at HVA
  have h40 := hmc.n40
  have HMC := Lib.hid hmc
  obtain ⟨i1, ki, kz0, kz1, kz2⟩ := info_parts infoInts
  have hmk : ∀ W : World, (Instr.makeSlice 27 (.int .i64 (n : Int)) (.int .i64 (n : Int))).run Try.prog W = .ok (.slice (some ⟨W.heap.size, 0, none⟩) n n) (W.alloc (.cells (madeCells #[.slice none 0 0] n) 35)) := fun W => by
    have h := run_make (P := Try.prog) W 27 35 i1 _ Try.underlying27 ki kz0 .i64 .i64 (n : Int) (n : Int) (by omega) (by omega) (by rw [kz2]; omega) (by omega)
    rw [kz1, Int.toNat_natCast, Nat.mul_one] at h
    exact h
  obtain ⟨i2, li, lz0, lz1, lz2⟩ := info_parts infoInt
  have K0 := Lib.hid li
  have K1 := Lib.hid lz0
  have K2 := Lib.hid lz1
  have K3 := Lib.hid lz2
  rw [show M.tv = .slice M.A M.ts.length M.c from rfl, show M.rv = .slice M.rA M.rs.length M.rc from rfl] at HVA ⊢
  have hsm : SL.simulate M.ts M.rs cN n = ((SL.simS M.ts M.rs cN n 0 (List.replicate M.ts.length SL.jb0)).1, (SL.simS M.ts M.rs cN n 0 (List.replicate M.ts.length SL.jb0)).2.2 ++ SL.begMs M.ts n 0 (SL.simS M.ts M.rs cN n 0 (List.replicate M.ts.length SL.jb0)).2.1) := rfl
  generalize SL.simulate M.ts M.rs cN n = RS at *
  generalize hR0 : SL.simS M.ts M.rs cN n 0 (List.replicate M.ts.length SL.jb0) = R at *
  have HR0 := Lib.hid hR0
  have HSM := Lib.hid hsm
  have d1 : decide ((n : Int) < 0) = false := decide_eq_false (by omega)
  have d2 : decide ((100000 : Int) < (n : Int)) = false := decide_eq_false (by omega)
  clear hmc hv hx hrl ki kz0 kz1 kz2 li lz0 lz1 lz2 hR0 hsm
  go_enter Try.func11, Try.ntmps11
  go_wp2_with fail
  refine HVA.out.mono ?_
  rintro e w1 ⟨rfl, hg1⟩
  have HB1 := Lib.hid hg1.1
  have HMC1 := Lib.hid (show MC w1 M from ⟨HMC.out.ok, HMC.out.len, HMC.out.oks, HMC.out.row.below hg1.1, HMC.out.rel.below hg1.1⟩)
  have HST := Lib.hid (start_any M w1 h40)
  rw [show M.tv = .slice M.A M.ts.length M.c from rfl, show M.rv = .slice M.rA M.rs.length M.rc from rfl] at HST
  clear hg1 HVA
  go_wp2_with fail
  refine HST.out.mono ?_
  rintro e w2 ⟨gm, gj, rfl, hI2⟩
  have hI3 : MInv w1 M gm gj (List.replicate M.ts.length SL.jb0) (.slice none 0 0) [] (w2.alloc (.cells (madeCells #[.slice none 0 0] n) 35)) := hI2.fx ((FxT.refl [] w2).alloc _) (hI2.be.alloc hI2.be.size _) (by simp) (by simp) (by simp)
  have hS3 : SchedS (w2.alloc (.cells (madeCells #[.slice none 0 0] n) 35)) w2.heap.size n 0 [] := ⟨_, Blk.new w2 _ _, size_madeCells _ _, rfl, fun i r hi => by simp at hi, fun i _ hi => by
    rw [show n = n * 1 from by omega, show (#[Value.slice none 0 0] : Array Value) = [Value.slice none 0 0].toArray from rfl, made_flat _ 1 rfl, List.getElem?_toArray]
    have h1 := flat_at 1 (fun _ : Unit => [Value.slice none 0 0]) (fun _ => rfl) (List.replicate n ()) i 0 () (by simp [hi]) (by omega)
    simpa using h1⟩
  have HREL := Lib.hid (show SimRel w1 M gm gj w2.heap.size n cN R (.int .i64 0) (w2.alloc (.cells (madeCells #[.slice none 0 0] n) 35)) from ⟨0, _, _, [], [], Nat.zero_le _, rfl, hI3, hS3, by simp, by rw [Nat.sub_zero, HR0.out]; rfl, by rw [Nat.sub_zero, HR0.out], by rw [Nat.sub_zero, HR0.out]; rfl⟩)
  have hgs : w.heap.size ≤ w2.heap.size := Nat.le_trans HB1.out.size hI2.be.size
  have HGS1 := Lib.hid hI2.be.size
  clear hI2 hI3 hS3 HST
  go_wp2_with fail
  generalize w2.alloc (.cells (madeCells #[.slice none 0 0] n) 35) = w3 at *
  generalize w2.heap.size = gs at *
  go_loopw [34] (fun iv wr => SimRel w1 M gm gj gs n cN R iv wr) (fun iv _ => n - (intOf iv).toNat)
  case atStart => exact HREL.out
  case round =>
    obtain ⟨t, js, mv, ms, S, htn, rfl, hI, hS, hms, hr1, hr2, hr3⟩ := hrel
    obtain ⟨wr1, hwr1⟩ : ∃ wr1, wr1 = wr := ⟨_, rfl⟩
    rw [← hwr1] at hI hS ⊢
    clear hwr1
    by_cases hlt : t < n
    · have q0 : (t : Int) < (n : Int) := by omega
      rw [simS_step hlt] at hr1 hr2 hr3
      simp only at hr1 hr2 hr3
      have HBG := Lib.hid (begin_any w1 M HMC1.out gm gj js mv ms t (by omega) (by omega) wr1 hI)
      have hml := begMs_len M.ts t 0 js
      have HS := Lib.hid hS
      have HR1 := Lib.hid hr1
      have HR2 := Lib.hid hr2
      have HR3 := Lib.hid hr3
      have HIB := Lib.hid hI
      clear hI hS hr1 hr2 hr3 HREL
      go_wp2_with fail
      refine HBG.out.mono ?_
      rintro e w4 ⟨rfl, ⟨mv1, hI4⟩, hF4⟩
      have HI4 := Lib.hid hI4
      have HF4 := Lib.hid hF4
      have HCA := Lib.hid (candidates_any w1 M HMC1.out gm gj _ mv1 _ t (by omega) w4 hI4)
      have hok4 := cands_ok HMC1.out hI4.ok t
      have hcl := cands_len M.ts 0 t (SL.begJs M.ts M.rs t js)
      have hch := chosen_ok M.ts cN t (SL.begJs M.ts M.rs t js)
      have hcd : SL.chosen M.ts cN t (SL.begJs M.ts M.rs t js) = ((SL.srt (SL.cands M.ts 0 t (SL.begJs M.ts M.rs t js))).take cN).map (·.num) := rfl
      generalize SL.begJs M.ts M.rs t js = js1 at *
      generalize SL.chosen M.ts cN t js1 = ch at *
      generalize SL.cands M.ts 0 t js1 = cd at *
      have HOK := Lib.hid hok4
      have HCH := Lib.hid hch
      have HCD := Lib.hid hcd
      clear hI4 hF4 HBG hok4 hch hcd
      go_wp2_with fail
      refine HCA.out.mono ?_
      rintro e w5 ⟨v, rfl, ho5, hb5⟩
      obtain ⟨A5, c5, rfl⟩ := own_form ho5
      have HI5 := Lib.hid (HI4.out.fx ((FxT.refl [] w4).below hb5) (HI4.out.be.trans (hb5.mono HI4.out.be.size)) (by simp) (by simp) (by simp))
      have HF5 := Lib.hid (HF4.out.below hb5)
      have HSO := Lib.hid (sortCd_any cd HOK.out w4.heap.size w5 _ ho5 (by omega))
      have hb4 := HI4.out.be.size
      have hs4 := HF4.out.1
      clear ho5 hb5 HCA HI4 HF4
      go_wp2_with fail
      refine HSO.out.mono ?_
      rintro e w6 ⟨rfl, ho6, hf6, hbe6, hfx6⟩
      have HI6 := Lib.hid (HI5.out.fx hf6 (hbe6 _ _ HI5.out.be hb4) (by decide) (by decide) (by decide))
      have HF6 := Lib.hid (hfx6 _ _ HF5.out hs4)
      have HO6 := Lib.hid ho6
      have hcap : cd.length ≤ c5 := by
        rcases ho6.2 with ⟨e0, h0⟩ | ⟨g, cap, cur, e0, _, _, h0, _⟩
        · injection e0 with _ e1 e2; omega
        · injection e0 with _ e1 e2; omega
      have hmin : min (cN : Int) (cd.length : Int) = ((min cN cd.length : Nat) : Int) := by omega
      have hchl : ch.length = min cN cd.length := by rw [HCD.out, List.length_map, List.length_take, (srt_perm cd).length_eq]
      clear ho6 hf6 hbe6 hfx6 HSO HI5 HF5
      rw [← hchl] at hmin
      have HCHL := Lib.hid hchl
      clear hchl
      obtain ⟨vs, hvk0, hvs, hSl, hvr, hvn⟩ := HS.out
      have hvk := hvk0.fx HF6.out (by decide)
      clear hvk0
      have HVR := Lib.hid hvr
      have HVN := Lib.hid hvn
      have hgs1 := HGS1.out
      have HIN := Lib.hid (show InInv w1 M gm gj gs t vs js1 ch mv1 (ms ++ SL.begMs M.ts t 0 js) wr1 w6 0 (.slice none 0 0) w6 from
        ⟨HI6.out, World.ownsRow_nil _ _ _ _, by rw [set_self vs t _ (hvn t (Nat.le_refl _) hlt)]; exact hvk, HF6.out.mono (by decide), FxT.refl _ _, hgs1, HIB.out.be.size⟩)
      have HCC := Lib.hid (fun (k : Nat) (c : Cd) (hk : (SL.srt cd)[k]? = some c) (W : World) (hf : FxT inT w6 W) => (show ∃ g5, A5 = some ⟨g5, 0, none⟩ ∧ ∀ m, m < 6 → W.cell? ⟨g5, k * 6 + m, none⟩ = (cdV c)[m]? from by
        have h1 := own_fx HO6.out hf (by decide)
        have hpos : 0 < cd.length := by
          have := (List.getElem?_eq_some_iff.1 hk).1
          rw [(srt_perm cd).length_eq] at this
          omega
        obtain ⟨g, cap, hv, _, _, _, hc⟩ := own_cells h1 hpos
        injection hv with hA
        refine ⟨g, hA, fun m hm => ?_⟩
        have h2 := flat_at 6 cdL (fun _ => rfl) (SL.srt cd) k m c hk hm
        have h3 : (cdL c)[m]? = (cdV c)[m]? := by simp [cdL]
        have h4 : m < (cdV c).size := hm
        rw [h3, Array.getElem?_eq_getElem h4] at h2
        rw [Array.getElem?_eq_getElem h4]
        exact hc _ _ h2))
      clear hvk hvr hvn hgs1 HS HI6
      go_wp2_with fail
      go_loopw [52] (fun iv wx => ∃ (i : Nat) (rv : Value), i ≤ ch.length ∧ iv = .int .i64 (i : Int) ∧ InInv w1 M gm gj gs t vs js1 ch mv1 (ms ++ SL.begMs M.ts t 0 js) wr1 w6 i rv wx) (fun iv _ => ch.length - (intOf iv).toNat)
      case atStart => exact ⟨0, _, Nat.zero_le _, rfl, HIN.out⟩
      case round =>
        obtain ⟨i, rv, hi, rfl, hin⟩ := hrel
        have HN := Lib.hid hin
        by_cases hil : i < ch.length
        · have q1 : (i : Int) < (ch.length : Int) := by omega
          obtain ⟨c, hc⟩ : ∃ c, (SL.srt cd)[i]? = some c := ⟨_, List.getElem?_eq_getElem (by have := HCHL.out; rw [(srt_perm cd).length_eq]; omega)⟩
          have hci : ch[i]? = some c.num := by rw [HCD.out, List.getElem?_map, List.getElem?_take, if_pos (by have := HCHL.out; omega), hc]; rfl
          obtain ⟨g5, rfl, hcc⟩ := HCC.out i c hc _ hin.f6
          have x0 : wr.cell? ⟨g5, i * 6, none⟩ = some (.int .i64 (c.num : Int)) := hcc 0 (by omega)
          have x1 := hcc 1 (by omega)
          have x2 := hcc 2 (by omega)
          have x3 := hcc 3 (by omega)
          have x4 := hcc 4 (by omega)
          have x5 := hcc 5 (by omega)
          simp only [cdV, List.getElem?_toArray, List.getElem?_cons_zero, List.getElem?_cons_succ] at x1 x2 x3 x4 x5
          have hcx : hin.mi.jl = hin.mi.jl := rfl
          clear hcc hcx
          have hgl : gs < wr.heap.size := hin.bg.lt
          have hrl : rv = rv := rfl
          obtain ⟨Ar, cr, hrv⟩ := own_form hin.ow
          have htv : t < vs.size := by omega
          have HA0 : Hid ((wr.alloc (.cells (cdV c) 68)).cell? ⟨gs, t, none⟩ = some rv) := Lib.hid ((hin.bg.alloc _).cell t |>.trans (by rw [Array.getElem?_setIfInBounds, if_pos rfl, if_pos htv]))
          have a0 : (wr.alloc (.cells #[.int .i64 (c.num : Int), .string c.tk.name, .int .i64 c.tk.cost, .int .i64 c.tk.per, .int .i64 c.rel, .int .i64 c.idx] 68)).cell? ⟨gs, t, none⟩ = some rv := HA0.out
          have a1 := (hin.bg.alloc (.cells #[.int .i64 (c.num : Int), .string c.tk.name, .int .i64 c.tk.cost, .int .i64 c.tk.per, .int .i64 c.rel, .int .i64 c.idx] 68)).frozen t
          have b0 : (wr.alloc (.cells #[.int .i64 (c.num : Int), .string c.tk.name, .int .i64 c.tk.cost, .int .i64 c.tk.per, .int .i64 c.rel, .int .i64 c.idx] 68)).cell? ⟨wr.heap.size, 0, none⟩ = some (.int .i64 (c.num : Int)) := (Blk.new wr 68 (cdV c)).cell 0
          rw [hrv] at a0
          have HOW : Hid ((((wr.alloc (.cells #[.int .i64 (c.num : Int), .string c.tk.name, .int .i64 c.tk.cost, .int .i64 c.tk.per, .int .i64 c.rel, .int .i64 c.idx] 68)).alloc (.cells #[.int .i64 (c.num : Int)] 3)).drew).ownsRow wr1.heap.size 3 1 (.slice Ar i cr) i (natI (ch.take i))) := by
            have h1 := hin.ow.alloc (.cells #[.int .i64 (c.num : Int), .string c.tk.name, .int .i64 c.tk.cost, .int .i64 c.tk.per, .int .i64 c.rel, .int .i64 c.idx] 68)
            rw [hrv] at h1
            exact World.ownsRow.alloc h1 _
          subst hrv
          have hcl8 : ch.length ≤ 8 := Nat.le_trans HCH.out.2.1 hc8
          have hsw1 := hin.f1.1
          clear hin hrl HA0
          go_wp2_with fail
          go_region_law (first | (refine step_append_lies _ (by rfl) _ _ 35 (by rfl) wr1.heap.size 3 i2 (.int .i64 0) 1 8 Try.underlying35 K0.out K1.out K2.out K3.out (by rfl) (by decide) _ _ _ (by rfl) HOW.out ⟨wr.heap.size + 1, 0, none⟩ 1 1 [.int .i64 (c.num : Int)] (by rfl) (by rfl) (World.news_of_block (cs := #[.int .i64 (c.num : Int)]) (blk_second wr _ _ _ _)) (by intro u hu; simp at hu; subst hu; rfl) (by decide) (by unfold maxLen; omega) (by omega) (by simp; omega) (wr.heap.size + 2) (by simp) ?_; intro g cap w7 hown7 hg7 hat7 hlt7; have hgr := HN.out.grew hg7; have c7 : w7.cell? ⟨gs, t, none⟩ = some (.slice Ar i cr) := (hgr.1.cell t).trans (by rw [Array.getElem?_setIfInBounds, if_pos rfl, if_pos htv]); have f7 := hgr.1.frozen t; have HG7 := Lib.hid hg7; have HO7 := Lib.hid hown7; clear hgr hg7 hown7))
          all_goals
            obtain ⟨p1, p2, p3, p4, p5⟩ := HN.out.put (v' := .slice (some ⟨g, 0, none⟩) (i + 1) cap) HG7.out
            have ho8 := own_set HO7.out (HN.out.grew HG7.out).1 (by decide) t (.slice (some ⟨g, 0, none⟩) (i + 1) cap)
            have htk : ch.take (i + 1) = ch.take i ++ [c.num] := by
              obtain ⟨h1, h2⟩ := List.getElem?_eq_some_iff.1 hci
              rw [List.take_succ_eq_append_getElem h1, h2]
            rw [show natI (ch.take i) ++ [.int .i64 (c.num : Int)] = natI (ch.take (i + 1)) from by rw [htk]; simp [natI]] at ho8
            obtain ⟨tt, jj, hts, hjs, hpe⟩ := HCH.out.2.2 c.num (List.mem_of_getElem? hci)
            have hnin : c.num ∉ ch.take i := by
              intro h
              have hnd := HCH.out.1
              rw [← List.take_append_drop (i + 1) ch, htk] at hnd
              have h2 := (List.nodup_append.1 (List.nodup_append.1 hnd).1).2.2
              exact h2 c.num h c.num (by simp) rfl
            have hjk : (SL.bump js1 (ch.take i))[c.num]? = some jj := by rw [bump_get _ _ _ hnin]; exact hjs
            have hpe2 : jj.done < tt.cost := by unfold SL.pend at hpe; simp at hpe; exact hpe.2
            have hcost := (SL.okTk_iff.1 (HMC1.out.okt hts))
            have hoj := p1.ok jj (List.mem_of_getElem? hjk)
            have hd0 : 0 ≤ jj.done := hoj.2.2.1
            have hkn : c.num < M.ts.length := (List.getElem?_eq_some_iff.1 hts).1
            have q7 : (c.num : Int) < (M.ts.length : Int) := by omega
            have m2 : (w7.setCell ⟨gs, t, none⟩ (.slice (some ⟨g, 0, none⟩) (i + 1) cap)).cell? ⟨gm, 2, none⟩ = some (.slice (some ⟨gj, 0, none⟩) M.ts.length M.ts.length) := p1.bm.cell 2
            have m3 : (w7.setCell ⟨gs, t, none⟩ (.slice (some ⟨g, 0, none⟩) (i + 1) cap)).cell? ⟨wr.heap.size, 0, none⟩ = some (.int .i64 (c.num : Int)) := p5.cell 0
            obtain ⟨_, _, j2, _⟩ := jb_cells p1.bj hjk
            have jf := p1.bj.frozen (c.num * 4 + 2)
            have z7 : IntKind.i64.wrap (jj.done + 1) = jj.done + 1 := IntWalk.i64_in _ (by omega)
            have hnx := (p1.drewN 1).job (m := 2) (j' := { jj with done := jj.done + 1 }) (v := .int .i64 (jj.done + 1)) hjk (by omega) rfl ⟨hoj.1, hoj.2.1, by show 0 ≤ jj.done + 1; omega, by show jj.done + 1 ≤ 1000; omega, hoj.2.2.2.2⟩
            rw [← bump1_set hjk, ← bump_snoc, ← htk] at hnx
            have HNX := Lib.hid (show InInv w1 M gm gj gs t vs js1 ch mv1 (ms ++ SL.begMs M.ts t 0 js) wr1 w6 (i + 1) (.slice (some ⟨g, 0, none⟩) (i + 1) cap) _ from
              ⟨hnx, own_set (show ((w7.setCell ⟨gs, t, none⟩ (.slice (some ⟨g, 0, none⟩) (i + 1) cap)).drewN 1).ownsRow wr1.heap.size 3 1 (.slice (some ⟨g, 0, none⟩) (i + 1) cap) (i + 1) (natI (ch.take (i + 1))) from ho8) (p1.bj.drewN 1) (by decide) (c.num * 4 + 2) (.int .i64 (jj.done + 1)), (p2.drewN 1).far (p := ⟨gj, c.num * 4 + 2, none⟩) (blk_ne p2 p1.bj (by decide)) _, (p3.drewN 1).set (p1.bj.drewN 1) (by decide) _ _, (p4.drewN 1).set (p1.bj.drewN 1) (by decide) _ _, HN.out.lo, HN.out.b1⟩)
            clear p1 p2 p3 p4 p5 ho8 htk hnin hjk hpe hpe2 hts hjs hnx hoj HG7 HO7 c7 f7 hcost a0 a1 b0 x0 x1 x2 x3 x4 x5 HOW hat7 hlt7
            go_wp2_with fail
            generalize w7.setCell ⟨gs, t, none⟩ (.slice (some ⟨g, 0, none⟩) (i + 1) cap) = w8 at *
            go_still_tail 12, (by kernel_rfl)
            change wpList _ _ _ _ _ w8.drew
            have j2d : w8.drew.cell? ⟨gj, c.num * 4 + 2, none⟩ = some (.int .i64 jj.done) := j2
            have jfd : w8.drew.frozen? ⟨gj, c.num * 4 + 2, none⟩ = false := jf
            go_wp2_with fail
            exact ⟨⟨i + 1, _, hil, by simp, HNX.out⟩, by simp [intOf]; omega⟩
        · have hie : i = ch.length := by omega
          subst hie
          have q1 : ¬ (ch.length : Int) < (ch.length : Int) := by omega
          have htv : t < vs.size := by omega
          obtain ⟨Ar, cr, hrv⟩ := own_form hin.ow
          have a0 : wr.cell? ⟨gs, t, none⟩ = some rv := (hin.bg.cell t).trans (by rw [Array.getElem?_setIfInBounds, if_pos rfl, if_pos htv])
          have hbg := hin.bg
          have how := hin.ow
          have hmi := hin.mi
          rw [List.take_length] at how hmi
          have hzs : natI ch = (ch.map fun (k : Nat) => (k : Int)).map (Value.int .i64) := by simp [natI]
          rw [hzs] at how
          have HSI := Lib.hid (sortInts_any (ch.map fun (k : Nat) => (k : Int)) wr1.heap.size wr rv (by rw [List.length_map]; exact how) (by rw [List.length_map]; have := HCH.out.2.1; omega))
          rw [← List.map_mergeSort (r := fun (a b : Nat) => decide (a ≤ b)) (fun a _ b _ => by simp)] at HSI
          rw [show (ch.mergeSort fun a b => decide (a ≤ b)) = SL.rowOf ch from rfl, List.length_map] at HSI
          rw [hrv] at a0
          have HMI := Lib.hid hmi
          have HBG := Lib.hid hbg
          clear hin how hmi hbg hzs
          subst hrv
          go_wp2_with fail
          refine HSI.out.mono ?_
          rintro e w7 ⟨rfl, ho7, hf7, hbe7, hfx7⟩
          have hb1w := HN.out.b1
          have hmi7 := HMI.out.fx hf7 (hbe7 _ _ HMI.out.be hb1w) (by decide) (by decide) (by decide)
          have hf17 := hfx7 _ _ HN.out.f1 (Nat.le_refl _)
          have hrl : (SL.rowOf ch).length = ch.length := by unfold SL.rowOf; simp
          have hro : RowI w7 Ar (natI (SL.rowOf ch)) := by
            have h1 := ho7
            have h2 := rowI_own h1
            rw [show natI (SL.rowOf ch) = ((SL.rowOf ch).map fun (k : Nat) => (k : Int)).map (Value.int .i64) from by simp [natI]]
            exact h2
          have hsc : SchedS w7 gs n (t + 1) (S ++ [SL.rowOf ch]) := by
            refine ⟨_, HBG.out.fx hf7 (by decide), by simpa using hvs, by simp [hSl], fun k r hk => ?_, fun k hk1 hk2 => ?_⟩
            · by_cases hkt : k < t
              · rw [List.getElem?_append_left (by omega)] at hk
                obtain ⟨A, cc, h1, h2⟩ := HVR.out k r hk
                exact ⟨A, cc, by rw [Array.getElem?_setIfInBounds, if_neg (by omega)]; exact h1, h2.fx hf17 (by decide)⟩
              · rw [List.getElem?_append_right (by omega)] at hk
                have hk0 : k - S.length = 0 := by
                  rcases Nat.eq_zero_or_pos (k - S.length) with h | h
                  · exact h
                  · rw [List.getElem?_eq_none (by simp; omega)] at hk; cases hk
                rw [hk0] at hk
                simp at hk
                subst hk
                refine ⟨Ar, cr, ?_, hro⟩
                rw [show k = t from by omega, Array.getElem?_setIfInBounds, if_pos rfl, if_pos htv, hrl]
            · rw [Array.getElem?_setIfInBounds, if_neg (by omega)]
              exact HVN.out k (by omega) hk2
          have HNX := Lib.hid (show SimRel w1 M gm gj gs n cN R (.int .i64 ((t + 1 : Nat) : Int)) w7 from
            ⟨t + 1, _, mv1, _, _, hlt, rfl, hmi7, hsc, by rw [List.length_append]; omega, by rw [List.append_assoc]; exact HR1.out, HR2.out, by rw [List.append_assoc]; exact HR3.out⟩)
          clear ho7 hf7 hbe7 hfx7 hmi7 hf17 hro hsc HSI HMI HBG
          go_wp2_with fail
          exact ⟨by have h := HNX.out; simpa using h, by simp [intOf]; omega⟩
    · have htn' : t = n := by omega
      subst htn'
      have q0 : ¬ (t : Int) < (t : Int) := by omega
      rw [Nat.sub_self, SL.simS] at hr1 hr2 hr3
      simp only [List.append_nil] at hr1 hr2 hr3
      subst hr2
      have HBG := Lib.hid (begin_any w1 M HMC1.out gm gj _ mv ms t (by omega) (by omega) wr1 hI)
      have HS := Lib.hid hS
      have HE1 := Lib.hid (show RS.1 = S by rw [HSM.out]; exact hr1.symm)
      have HE2 := Lib.hid (show RS.2 = ms ++ SL.begMs M.ts t 0 R.2.1 by rw [HSM.out]; show R.2.2 ++ _ = _; rw [← hr3])
      clear hI hS hr1 hr3 HREL
      go_wp2_with fail
      refine HBG.out.mono ?_
      rintro e w4 ⟨rfl, ⟨mv1, hI4⟩, hF4⟩
      have m3 : w4.cell? ⟨gm, 3, none⟩ = some mv1 := hI4.bm.cell 3
      have HS4 := Lib.hid (HS.out.fx hF4 (by decide) (by decide))
      have HI4 := Lib.hid hI4
      clear hI4 hF4 HBG
      go_wp2_with fail
      go_quiet (fail)
      go_wp2_with fail
      go_ret3
      refine ⟨gs, mv1, rfl, hgs, ?_, ?_, ?_⟩
      · rw [HE1.out]; exact HS4.out
      · rw [HE2.out]
        exact own_base (show (w4.drewN nq).ownsRow w1.heap.size 88 3 mv1 _ _ from HI4.out.bs) HB1.out.size
      · exact below_drewN (HB1.out.trans (HI4.out.be.mono HB1.out.size)) nq
end
end Go.Proofs.Ytdlbokcndbbgnaa
