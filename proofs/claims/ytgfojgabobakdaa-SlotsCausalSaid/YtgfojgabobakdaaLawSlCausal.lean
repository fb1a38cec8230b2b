/- SlotsCausal: a simulation of fewer slots, without the later releases, is a prefix. -/
import Derived.Test.YtgfojgabobakdaaSlR
import Derived.Test.YtgfojgabobakdaaPlainSl4
namespace Go.Proofs.Ytgfojgabobakdaa
open Go.RowKit Go.Maps Go.Sort Go.Lib
open SL (Tk Jb Ms Cd)
theorem okP_great {p : Pl} (h : okP p = true) : greatP p = false := by
  unfold okP at h
  simp only [Bool.and_eq_true, Bool.not_eq_true'] at h
  exact h.1
section
set_option maxHeartbeats 2000000
set_option maxRecDepth 100000
theorem causal_walk (p : Pl) (cut : Nat) (w : World) (hp : PlIn w p) (hcut : cut ≤ 255) : Calls Try.prog 4 #[.agg (plV p), .int .u8 (cut : Int)] w fun e w' => e = .returned (.bool true) ∧ Below w.heap.size w w' := by
  have hnot : ∀ (x : Bool) (w : World), (Op.unary .not (.bool x)).run Try.prog w = .ok (.bool (!x)) w := fun _ _ => rfl
  obtain ⟨i2, li, lz0, lz1, lz2⟩ := info_parts infoInt
  have K0 := Lib.hid li
  have K1 := Lib.hid lz0
  have K2 := Lib.hid lz1
  have K3 := Lib.hid lz2
  obtain ⟨i3, mi, mz0, mz1, mz2⟩ := info_parts infoInts
  have J0 := Lib.hid mi
  have J1 := Lib.hid mz0
  have J2 := Lib.hid mz1
  have J3 := Lib.hid mz2
  clear li lz0 lz1 lz2 mi mz0 mz1 mz2
  obtain ⟨⟨ts, TA, tc, rs, rA, rc⟩, cores, untl⟩ := p
  have hb := (Below.refl w.heap.size w).alloc (Nat.le_refl _) (.cells (plV ⟨⟨ts, TA, tc, rs, rA, rc⟩, cores, untl⟩) 25)
  have hk := Blk.new w 25 (plV ⟨⟨ts, TA, tc, rs, rA, rc⟩, cores, untl⟩)
  have HB := Lib.hid hb
  have HK := Lib.hid hk
  have HPI := Lib.hid (hp.below hb)
  have HPV := Lib.hid (show plV ⟨⟨ts, TA, tc, rs, rA, rc⟩, cores, untl⟩ = #[.slice TA ts.length tc, .int .i64 cores, .slice rA rs.length rc, .int .i64 untl] from rfl)
  rw [HPV.out] at hk HB HPI HK ⊢
  clear hb hk hp
  go_enter Try.func4, Try.ntmps4
  go_wp2_with fail
  (with_reducible refine (awake_any _).mono ?_)
  rintro e w1 ⟨rfl, hb1⟩
  have HB1 := Lib.hid (HB.out.trans (hb1.mono HB.out.size))
  have HK1 := Lib.hid (HK.out.below hb1)
  have HPI1 := Lib.hid (HPI.out.below hb1)
  obtain ⟨b0, b1, b2, b3⟩ := HK1.out.four.1
  have HSM := Lib.hid (simulated_any ⟨⟨ts, TA, tc, rs, rA, rc⟩, cores, untl⟩ w1 HPI1.out)
  rw [HPV.out] at HSM
  clear hb1
  go_wp2_with fail
  (with_reducible refine HSM.out.mono ?_)
  rintro e w2 ⟨hb2, h2⟩
  have HB2 := Lib.hid (HB1.out.trans (hb2.mono HB1.out.size))
  have HK2 := Lib.hid (HK1.out.below hb2)
  have HPI2 := Lib.hid (HPI1.out.below hb2)
  obtain ⟨c0, c1, c2, c3⟩ := HK2.out.four.1
  clear hb2 HSM
  rcases h2 with ⟨_, rfl⟩ | ⟨hok, gs, mv, rfl, hgs, hS, how⟩
  · go_wp2_with fail
    go_ret
    exact ⟨rfl, HB2.out⟩
  · obtain ⟨A, c, rfl⟩ := own_slice how
    have HO := Lib.hid (okP_of hok)
    obtain ⟨n, hn, hn1⟩ := HO.out.u
    simp only at hn
    subst hn
    have HS2 := Lib.hid hS
    have HOK := Lib.hid hok
    have z1 : ¬ ((n : Int) + 1 = 0) := by omega
    have z2 : IntKind.i64.wrap ((n : Int) + 1) = (n : Int) + 1 := IntWalk.i64_in _ (by omega)
    have z3 : IntKind.i64.wrap (cut : Int) = (cut : Int) := IntWalk.i64_in _ (by omega)
    have hws : w.heap.size < w2.heap.size := HK2.out.lt
    obtain ⟨kk, hkk⟩ : ∃ kk : Nat, kk = cut % (n + 1) := ⟨_, rfl⟩
    have z4 : (cut : Int) % ((n : Int) + 1) = (kk : Int) := by rw [hkk]; simp
    have hkn : kk ≤ n := by rw [hkk]; have := Nat.mod_lt cut (show 0 < n + 1 by omega); omega
    have HKN := Lib.hid hkn
    have HN1 := Lib.hid hn1
    clear hS how hok hkk hkn hn1
    go_wp2_with fail
    simp only [z4]
    clear z4
    have hbq := Blk.new w2 25 #[.slice TA ts.length tc, .int .i64 cores, .slice none 0 0, .int .i64 (kk : Int)]
    have HBQ := Lib.hid hbq
    have hb3 := (Below.refl w2.heap.size w2).alloc (Nat.le_refl _) (.cells #[.slice TA ts.length tc, .int .i64 cores, .slice none 0 0, .int .i64 (kk : Int)] 25)
    have HB3 := Lib.hid hb3
    clear hbq hb3
    go_loopw [42] (fun v wr => ∃ (k : Nat) (qv : Value) (hs : List Value), k ≤ rs.length ∧ v = .int .i64 (k : Int) ∧ Below w2.heap.size w2 wr ∧ Blk wr w2.heap.size 25 #[.slice TA ts.length tc, .int .i64 cores, qv, .int .i64 (kk : Int)] ∧
      wr.ownsRow w2.heap.size 36 1 qv k hs ∧ ∀ (i : Nat) (r : List Int), (rs.take k)[i]? = some r → ∃ (Ai : Option Addr) (ci : Nat), hs[i]? = some (.slice Ai (SL.early kk r).length ci) ∧ RowI wr Ai ((SL.early kk r).map (Value.int .i64))) (fun v _ => rs.length - (intOf v).toNat)
    case atStart => exact ⟨0, .slice none 0 0, [], Nat.zero_le _, rfl, HB3.out, HBQ.out, World.ownsRow_nil _ _ _ _, fun i r h => by simp at h⟩
    case round =>
      obtain ⟨k, qv, hs, hk, rfl, hbw, hbq, how, hin⟩ := hrel
      generalize wr = w4 at *
      obtain ⟨qA, qc, rfl⟩ := own_form how
      have HBW := Lib.hid hbw
      have HBQ := Lib.hid hbq
      have HOW := Lib.hid how
      have HIN := Lib.hid hin
      by_cases hlt : k < rs.length
      · have q0 : (k : Int) < (rs.length : Int) := by omega
        obtain ⟨r, hr⟩ : ∃ r, rs[k]? = some r := ⟨_, List.getElem?_eq_getElem hlt⟩
        obtain ⟨RA, RC, hsr, hrv, hsl, hrow, hrr⟩ := HPI2.out.rel.below hbw
        unfold Mdl.rv at hrv
        simp only at hrv
        injection hrv with e1 e2 e3
        subst e1 e3
        obtain ⟨Ar, cr, hsi, hri⟩ := hrr k r hr
        obtain ⟨rb, ro, rfl, _, cr0⟩ := hrow.at hsi
        have hrl : r.length ≤ maxLen := (HPI2.out.lx r (List.mem_of_getElem? hr)).1
        have HRI := Lib.hid hri
        have HTK := Lib.hid (show rs.take (k + 1) = rs.take k ++ [r] from by
          obtain ⟨h1, h2⟩ := List.getElem?_eq_some_iff.1 hr
          rw [List.take_succ_eq_append_getElem h1, h2])
        have HRL := Lib.hid hrl
        have hr20 : r.length ≤ 20 := (great_parts (okP_great HOK.out)).2.2.1 r (List.mem_of_getElem? hr)
        have hr10 := (great_parts (okP_great HOK.out)).2.2.2
        have hmx : maxLen = 9223372036854775807 := rfl
        rw [hmx] at hrl
        clear hbw hbq how hin hr hrow hrr hsi hri hsl
        go_wp2_with fail
        go_loopw [12, 48] (fun ev iv wx => ∃ i : Nat, i ≤ r.length ∧ iv = .int .i64 (i : Int) ∧ wx.ownsRow w4.heap.size 3 1 ev (SL.early kk (r.take i)).length ((SL.early kk (r.take i)).map (Value.int .i64)) ∧ Below w4.heap.size w4 wx) (fun _ iv _ => r.length - (intOf iv).toNat)
        case atStart => exact ⟨0, Nat.zero_le _, rfl, World.ownsRow_nil _ _ _ _, Below.refl _ _⟩
        case round =>
          obtain ⟨i, hi, rfl, hoe, hbx⟩ := hrel
          obtain ⟨eA, ec, rfl⟩ := own_form hoe
          have HOE := Lib.hid hoe
          have HBX := Lib.hid hbx
          by_cases hil : i < r.length
          · have q1 : (i : Int) < (r.length : Int) := by omega
            obtain ⟨x, hx⟩ : ∃ x, r[i]? = some x := ⟨_, List.getElem?_eq_getElem hil⟩
            obtain ⟨xb, xo, rfl, _, cx⟩ := (HRI.out.below hbx).at (show (r.map (Value.int .i64))[i]? = some (.int .i64 x) by simp [hx])
            have htk : r.take (i + 1) = r.take i ++ [x] := by
              obtain ⟨h1, h2⟩ := List.getElem?_eq_some_iff.1 hx
              rw [List.take_succ_eq_append_getElem h1, h2]
            have hle : (SL.early kk (r.take i)).length ≤ i := by
              unfold SL.early
              exact Nat.le_trans (List.length_filter_le _ _) (by simp; omega)
            have hsx := hbx.size
            by_cases hxk : x < (kk : Int)
            · have HNE := Lib.hid (show SL.early kk (r.take (i + 1)) = SL.early kk (r.take i) ++ [x] from by
                unfold SL.early; rw [htk, List.filter_append]; simp [hxk])
              have d1 : decide (x < (kk : Int)) = true := decide_eq_true hxk
              clear htk hx hoe hbx
              go_wp2_with (at_builtin; refine wpList_append_own _ rfl _ _ 36 rfl w4.heap.size 3 i2 (.int .i64 0) 1 8 Try.underlying36 K0.out K1.out K2.out K3.out rfl (by decide) _ _ _ rfl (HOE.out.alloc _) ⟨wr.heap.size, 0, none⟩ 1 1 [.int .i64 x] rfl rfl ?c1 ?c2 ?c3 ?c4 ?c5 ?_)
              case c1 => exact World.news_of_block (cs := #[.int .i64 x]) (Blk.new wr _ _)
              case c2 => intro u hu; simp at hu; subst hu; rfl
              case c3 => unfold maxLen; omega
              case c4 => omega
              case c5 => simp; omega
              intro v' w6 hown6 hg6 _
              have hlt6 := (HOE.out.alloc (.cells #[.int .i64 x] 3)).lt
              have HB6 := Lib.hid (show Below w4.heap.size w4 w6 from Below.grown (HBX.out.alloc hsx (.cells #[.int .i64 x] 3)) hg6 (by simp; omega) (fun k hk => (hlt6 k hk).1))
              have HR6 := Lib.hid (show w6.ownsRow w4.heap.size 3 1 v' (SL.early kk (r.take (i + 1))).length ((SL.early kk (r.take (i + 1))).map (Value.int .i64)) from (by
                rw [HNE.out]
                simpa using hown6))
              clear hown6 hg6 hlt6
              go_wp2_with fail
              exact ⟨⟨i + 1, hil, by simp, HR6.out, HB6.out⟩, by simp [intOf]; omega⟩
            · have HNE := Lib.hid (show SL.early kk (r.take (i + 1)) = SL.early kk (r.take i) from by
                unfold SL.early; rw [htk, List.filter_append]; simp [hxk])
              have d1 : decide (x < (kk : Int)) = false := decide_eq_false hxk
              clear htk hx hoe hbx
              go_wp2_with fail
              exact ⟨⟨i + 1, hil, by simp, by rw [HNE.out]; exact HOE.out, HBX.out⟩, by simp [intOf]; omega⟩
          · have q1 : ¬ (i : Int) < (r.length : Int) := by omega
            have hie : r.take i = r := List.take_of_length_le (by omega)
            rw [hie] at hoe
            rw [hie]
            have HOE2 := Lib.hid hoe
            have HRW := Lib.hid (show RowI wr eA ((SL.early kk r).map (Value.int .i64)) from rowI_own hoe)
            have hbq6 := HBQ.out.below hbx
            have HBQ6 := Lib.hid hbq6
            have d2 : wr.cell? ⟨w2.heap.size, 2, none⟩ = some (.slice qA k qc) := hbq6.cell 2
            have f0 : FxT [] w4 wr := (FxT.refl [] w4).below hbx
            have HOW6 := Lib.hid (own_fx HOW.out f0 (by simp))
            have HIN6 := Lib.hid (show ∀ (i : Nat) (r : List Int), (rs.take k)[i]? = some r → ∃ (Ai : Option Addr) (ci : Nat), hs[i]? = some (.slice Ai (SL.early kk r).length ci) ∧ RowI wr Ai ((SL.early kk r).map (Value.int .i64)) from fun i r h => by
              obtain ⟨Ai, ci, g1, g2⟩ := HIN.out i r h
              exact ⟨Ai, ci, g1, g2.fx f0 (by simp)⟩)
            have HBW6 := Lib.hid (HBW.out.trans (hbx.mono HBW.out.size))
            have hsw6 := HBW6.out.size
            have hq6 := hbq6.lt
            clear hie hoe hbx f0 hbq6 HOE
            go_wp2_with (at_builtin; refine wpList_append_own _ rfl _ _ 23 rfl w2.heap.size 36 i3 (.slice none 0 0) 1 24 Try.underlying23 J0.out J1.out J2.out J3.out rfl (by decide) _ _ _ rfl (HOW6.out.alloc _) ⟨wr.heap.size, 0, none⟩ 1 1 [.slice eA (SL.early kk r).length ec] rfl rfl ?c1 ?c2 ?c3 ?c4 ?c5 ?_)
            case c2 => rfl
            case c3 => omega
            case c4 => omega
            case c5 => first | omega | (simp; omega)
            intro v' w6 hown6 hg6 _
            obtain ⟨vA, vc, rfl⟩ := own_form hown6
            have how7 := HOW6.out.alloc (.cells #[.slice eA (SL.early kk r).length ec] 36)
            have hlt6 := how7.lt
            have f6 : FxT [36] wr w6 := ((FxT.refl [36] wr).alloc _).grown hg6 (own_row how7 (by simp))
            have hbq7 := HBQ6.out.fx f6 (by decide)
            have d3 : w6.cell? ⟨w2.heap.size, 2, none⟩ = some (.slice qA k qc) := hbq7.cell 2
            have d4 := hbq7.frozen 2
            have f7 : FxT [25] w6 (w6.setCell ⟨w2.heap.size, 2, none⟩ (.slice vA (k + 1) vc)) := (FxT.refl _ w6).set hbq7 (by simp) 2 (.slice vA (k + 1) vc)
            have hb6 : Below w2.heap.size w2 w6 := Below.grown (HBW6.out.alloc hsw6 (.cells #[.slice eA (SL.early kk r).length ec] 36)) hg6 (by simp; omega) (fun k hk => (hlt6 k hk).1)
            have HB7 := Lib.hid (hb6.setCell (p := ⟨w2.heap.size, 2, none⟩) (Nat.le_refl _) (.slice vA (k + 1) vc))
            have hsl6 : hs.length = k := by have h := HOW6.out.1; omega
            have HI7 := Lib.hid (show ∀ (i : Nat) (r' : List Int), (rs.take (k + 1))[i]? = some r' → ∃ (Ai : Option Addr) (ci : Nat), (hs ++ [.slice eA (SL.early kk r).length ec])[i]? = some (.slice Ai (SL.early kk r').length ci) ∧ RowI (w6.setCell ⟨w2.heap.size, 2, none⟩ (.slice vA (k + 1) vc)) Ai ((SL.early kk r').map (Value.int .i64)) from fun i r' h => by
              rw [HTK.out] at h
              have hlk : (rs.take k).length = k := by rw [List.length_take]; omega
              rcases Nat.lt_or_ge i k with hik | hik
              · rw [List.getElem?_append_left (by omega)] at h
                obtain ⟨Ai, ci, g1, g2⟩ := HIN6.out i r' h
                exact ⟨Ai, ci, by rw [List.getElem?_append_left (by omega)]; exact g1, (g2.fx f6 (by decide)).fx f7 (by decide)⟩
              · rw [List.getElem?_append_right (by omega), hlk] at h
                have hik' : i = k := by
                  rcases Nat.eq_or_lt_of_le hik with h' | h'
                  · exact h'.symm
                  · rw [List.getElem?_eq_none (by simp; omega)] at h; cases h
                subst hik'
                simp at h
                subst h
                exact ⟨eA, ec, by rw [List.getElem?_append_right (by omega), hsl6]; simp, (HRW.out.fx f6 (by decide)).fx f7 (by decide)⟩)
            have HO7 := Lib.hid (own_set hown6 hbq7 (by decide) 2 (.slice vA (k + 1) vc))
            have HQ7 := Lib.hid (show Blk (w6.setCell ⟨w2.heap.size, 2, none⟩ (.slice vA (k + 1) vc)) w2.heap.size 25 #[.slice TA ts.length tc, .int .i64 cores, .slice vA (k + 1) vc, .int .i64 (kk : Int)] from hbq7.set_ 2 (.slice vA (k + 1) vc))
            clear hown6 hg6 hlt6 f6 f7 hbq7 how7 hb6
            go_wp2_with fail
            exact ⟨⟨k + 1, _, _, hlt, by simp, HB7.out, HQ7.out, HO7.out, HI7.out⟩, by simp [intOf]; omega⟩
      · have q0 : ¬ (k : Int) < (rs.length : Int) := by omega
        have hkl : k = rs.length := by omega
        subst hkl
        have hpq : PlIn w4 ⟨⟨ts, TA, tc, rs.map (SL.early kk), qA, qc⟩, cores, (kk : Int)⟩ := by
          refine ⟨HPI2.out.row.below hbw, ⟨qA, qc, hs, by simp [Mdl.rv], by rw [List.length_map]; have := how.1; omega, row_own how, fun i r hi => ?_⟩, HPI2.out.lt, by simpa using HPI2.out.lr, fun r hr => ?_⟩
          · rw [List.getElem?_map] at hi
            obtain ⟨r0, h0, rfl⟩ := Option.map_eq_some_iff.1 hi
            obtain ⟨Ai, ci, g1, g2⟩ := hin i r0 (by rw [List.take_length]; exact h0)
            exact ⟨Ai, ci, g1, g2.row⟩
          · obtain ⟨r0, h0, rfl⟩ := List.mem_map.1 hr
            obtain ⟨g1, g2⟩ := HPI2.out.lx r0 h0
            unfold SL.early
            exact ⟨Nat.le_trans (List.length_filter_le _ _) g1, fun x hx => g2 x (List.mem_filter.1 hx).1⟩
        have hokq : okP ⟨⟨ts, TA, tc, rs.map (SL.early kk), qA, qc⟩, cores, (kk : Int)⟩ = true := by
          obtain ⟨g1, g2, g3, g4⟩ := great_parts (okP_great HOK.out)
          simp only at g1 g2 g3 g4
          have hv := SL.early_valid (k := (kk : Int)) HO.out.val
          unfold okP greatP valP
          simp only [hv, Bool.true_and, Bool.and_eq_true, Bool.not_eq_true', Bool.or_eq_false_iff, Bool.not_eq_false', decide_eq_false_iff_not, decide_eq_true_eq, List.all_eq_true, List.length_map]
          refine ⟨⟨⟨⟨fun r hr => ?_, by omega⟩, by omega⟩, by have := HKN.out; omega⟩, by omega⟩
          obtain ⟨r0, h0, rfl⟩ := List.mem_map.1 hr
          have := g3 r0 h0
          unfold SL.early
          exact Nat.le_trans (List.length_filter_le _ _) this
        have HOKQ := Lib.hid hokq
        have HSM2 := Lib.hid (simulated_any _ w4 hpq)
        rw [show plV ⟨⟨ts, TA, tc, rs.map (SL.early kk), qA, qc⟩, cores, (kk : Int)⟩ = #[.slice TA ts.length tc, .int .i64 cores, .slice qA rs.length qc, .int .i64 (kk : Int)] from by simp [plV, Mdl.tv, Mdl.rv]] at HSM2
        obtain ⟨d0, d1, d2, d3⟩ := hbq.four.1
        have HB7x := Lib.hid hbw
        clear hbw hbq how hin hpq hokq HPI HPI1
        go_wp2_with fail
        (with_reducible refine HSM2.out.mono ?_)
        rintro e w5 ⟨hb5, h5⟩
        rcases h5 with ⟨hno, _⟩ | ⟨_, gs5, mv5, rfl, hgs5, hS5, _⟩
        · rw [HOKQ.out] at hno
          cases hno
        · have hsub : (simP ⟨⟨ts, TA, tc, rs.map (SL.early kk), qA, qc⟩, cores, (kk : Int)⟩).1 = (simP ⟨⟨ts, TA, tc, rs, rA, rc⟩, cores, (n : Int)⟩).1.take kk := by
            have h := SL.simulate_early (ts := ts) (rs := rs) (cores := cores.toNat) (k := kk) (n := n) (SL.okTs_all HO.out.ok) HO.out.oks HKN.out
            exact h
          have hS2 := HS2.out
          rw [hsub] at hS5
          simp only [Int.toNat_natCast] at hS5 hS2
          have R5 := Lib.hid (sched_rel hS5)
          have R2 := Lib.hid ((sched_rel hS2).below (HB7x.out.trans (hb5.mono HB7x.out.size)))
          have HL5 := Lib.hid (sched_len hS5)
          have HL2 := Lib.hid (sched_len hS2)
          have HB5 := Lib.hid (HB2.out.trans ((HB7x.out.trans (hb5.mono HB7x.out.size)).mono HB2.out.size))
          have HIL := Lib.hid (okP_ints HO.out)
          have e1 : ((kk : Int) != (kk : Int)) = false := by simp
          generalize (simP ⟨⟨ts, TA, tc, rs, rA, rc⟩, cores, (n : Int)⟩).1 = S at *
          have hkn := HKN.out
          clear hb5 hS5 hS2 hsub HS2 HSM2
          go_wp2_with fail
          go_loopw [83] (fun v wr => ∃ t q : Nat, t ≤ kk ∧ v = .int .i64 (t : Int) ∧ wr = w5.drewN q) (fun v _ => kk - (intOf v).toNat)
          case atStart => exact ⟨0, 0, Nat.zero_le _, rfl, rfl⟩
          case round =>
            obtain ⟨t, q, ht, rfl, hwr⟩ := hrel
            have HWR := Lib.hid hwr
            by_cases hlt : t < kk
            · have q1 : (t : Int) < (kk : Int) := by omega
              have q2 : (t : Int) < (n : Int) := by omega
              obtain ⟨r, hr⟩ : ∃ r, S[t]? = some r := ⟨_, List.getElem?_eq_getElem (by have := HL2.out; omega)⟩
              have hr5 : (S.take kk)[t]? = some r := by rw [List.getElem?_take, if_pos hlt]; exact hr
              obtain ⟨A5, c5, hs5, e5, _, row5, in5⟩ := R5.out
              obtain ⟨A2, c2', hs2, e2, _, row2, in2⟩ := R2.out
              obtain ⟨x5, y5, g5, i5⟩ := in5 t (SL.ints r) (by rw [List.getElem?_map, hr5]; rfl)
              obtain ⟨x2, y2, g2, i2'⟩ := in2 t (SL.ints r) (by rw [List.getElem?_map, hr]; rfl)
              injection e5 with e5 e6 e7
              injection e2 with e2 e8 e9
              subst e5 e2
              clear e6 e7 e8 e9
              obtain ⟨b5, o5, hA5, _, k5⟩ := row5.at g5
              obtain ⟨b2', o2, hA2, _, k2⟩ := row2.at g2
              injection hA5 with hA5
              injection hA5 with f1 f2
              injection hA2 with hA2
              injection hA2 with f3 f4
              subst f1 f2 f3 f4
              rw [Nat.zero_add] at k5 k2
              have m5 : wr.cell? ⟨gs5, t, none⟩ = some (.slice x5 (SL.ints r).length y5) := by rw [hwr]; exact k5
              have m2 : wr.cell? ⟨gs, t, none⟩ = some (.slice x2 (SL.ints r).length y2) := by rw [hwr]; exact k2
              have hrl8 := HIL.out _ (List.mem_of_getElem? (show (S.map SL.ints)[t]? = some (SL.ints r) by rw [List.getElem?_map, hr]; rfl))
              have HINT := Lib.hid (fun q' => Calls.quiet_of (ints_any (SL.ints r) x5 x2 y5 y2 (wr.drewN q') (by rw [hwr]; exact i5) (by rw [hwr]; exact i2') (by have hmx : maxLen = 9223372036854775807 := rfl; omega)))
              have hn100 := HN1.out
              generalize SL.ints r = rr at *
              clear hwr hr hr5 row5 in5 i5 row2 in2 i2' k5 k2 g5 g2
              go_wp2_with fail
              go_quiet ((go_at_call 14; exact HINT.out _))
              go_wp2_with fail
              exact ⟨⟨t + 1, q + nq, hlt, by simp, by rw [HWR.out, World.drewN_drewN]⟩, by simp [intOf]; omega⟩
            · have q1 : ¬ (t : Int) < (kk : Int) := by omega
              have HBE := Lib.hid (show Below w.heap.size w wr by rw [hwr]; exact below_drewN HB5.out q)
              clear hwr
              go_wp2_with fail
              go_ret
              exact ⟨rfl, HBE.out⟩
end
end Go.Proofs.Ytgfojgabobakdaa
