/- The reference's Next. -/
import Derived.Test.YtgfojgabobakdaaSlU
import Derived.Test.YtgfojgabobakdaaSlZ3
import Derived.Deep.RegionWith
import Derived.BigQuiet
namespace Go.Proofs.Ytgfojgabobakdaa
open Go.RowKit Go.Maps Go.Sort Go.Lib
open SL (Tk Jb Ms Cd)
theorem own_mono {w : World} {b b' : Nat} {e : TypeId} {size : Nat} {v : Value} {n : Nat} {xs : List Value} (h : w.ownsRow b e size v n xs) (hb : b' ≤ b) : w.ownsRow b' e size v n xs := by
  refine ⟨h.1, ?_⟩
  rcases h.2 with h1 | ⟨g, cap, cur, e0, h2, h3⟩
  · exact .inl h1
  · exact .inr ⟨g, cap, cur, e0, Nat.le_trans hb h2, h3⟩
section
set_option maxHeartbeats 4000000
set_option maxRecDepth 100000
theorem rnext_any (ts : List Tk) (TA : Option Addr) (tc : Nat) (rs : List (List Int)) (rA : Option Addr) (rc : Nat) (S : List (List Int)) (A : Option Addr) (n c : Nat) (cores : Int) (w : World)
    (hts : Row w TA (tkRow ts)) (hok : ∀ t ∈ ts, SL.okTk t = true) (ht8 : ts.length ≤ 8) (hrs : RelV w (.slice rA rs.length rc) rs) (hrl : rs.length = ts.length) (hr20 : ∀ r ∈ rs, r.length ≤ 20) (hr0 : ∀ r ∈ rs, ∀ x ∈ r, 0 ≤ x)
    (hr : RelV w (.slice A n c) S) (hl : S.length ≤ 100) (hlr : ∀ r ∈ S, r.length ≤ maxLen) :
    Calls Try.prog 13 #[.slice TA ts.length tc, .int .i64 cores, .slice rA rs.length rc, .slice A n c] w fun e w' => ∃ v, e = .returned v ∧ w'.ownsRow w.heap.size 3 1 v (SL.nextR ts rs S cores S.length).length ((SL.ints (SL.nextR ts rs S cores S.length)).map (Value.int .i64)) ∧ Below w.heap.size w w' := by
  have mixed : Try.prog.follows .mixedOrders = true := by kernel_rfl
  have hnot : ∀ (x : Bool) (w : World), (Op.unary .not (.bool x)).run Try.prog w = .ok (.bool (!x)) w := fun _ _ => rfl
  obtain ⟨i1, ki, kz0, kz1, kz2⟩ := info_parts infoRc
  have K0 := Lib.hid ki
  have K1 := Lib.hid kz0
  have K2 := Lib.hid kz1
  have K3 := Lib.hid kz2
  obtain ⟨i2, li, lz0, lz1, lz2⟩ := info_parts infoInt
  have L0 := Lib.hid li
  have L1 := Lib.hid lz0
  have L2 := Lib.hid lz1
  have L3 := Lib.hid lz2
  have HTS := Lib.hid hts
  have HOK := Lib.hid hok
  have HRS := Lib.hid hrs
  have HRL := Lib.hid hrl
  have HR20 := Lib.hid hr20
  have HR0 := Lib.hid hr0
  have HLR2 := Lib.hid hlr
  have HS := Lib.hid hr
  obtain rfl := relV_len hr
  have HCO := Lib.hid (cand_ok (S := S) (slot := S.length) (n := ts.length) hok hr0 (by omega))
  have HNR := Lib.hid (show SL.nextR ts rs S cores S.length = SL.nextL (SL.candR ts rs S S.length ts.length) cores ts.length from rfl)
  generalize SL.nextR ts rs S cores S.length = R at *
  clear hts hok hrs hr20 hr0 hlr hr hrl ki kz0 kz1 kz2 li lz0 lz1 lz2
  go_enter Try.func13, Try.ntmps13
  go_wp2_with fail
  go_loopw [10, 11] (fun ov v wr => ∃ i : Nat, i ≤ ts.length ∧ v = .int .i64 (i : Int) ∧ wr.ownsRow w.heap.size 80 5 ov (SL.candR ts rs S S.length i).length (rcC (SL.candR ts rs S S.length i)) ∧ Below w.heap.size w wr) (fun _ v _ => ts.length - (intOf v).toNat)
  case atStart => exact ⟨0, Nat.zero_le _, rfl, World.ownsRow_nil _ _ _ _, Below.refl _ _⟩
  case round =>
    obtain ⟨i, hi, rfl, how, hbw⟩ := hrel
    obtain ⟨oA, oc, rfl⟩ := own_form how
    have hcl := SL.candR_len ts rs S S.length i
    have HO := Lib.hid how
    have HB := Lib.hid hbw
    by_cases hil : i < ts.length
    · have q1 : (i : Int) < (ts.length : Int) := by omega
      have q2 : (i : Int) < (rs.length : Int) := by have := HRL.out; omega
      obtain ⟨tk, htk⟩ : ∃ tk, ts[i]? = some tk := ⟨_, List.getElem?_eq_getElem hil⟩
      obtain ⟨r, hri⟩ : ∃ r, rs[i]? = some r := ⟨_, List.getElem?_eq_getElem (by rw [HRL.out]; exact hil)⟩
      have hr20 := HR20.out r (List.mem_of_getElem? hri)
      obtain ⟨tb, to_, rfl, htb, t0, t1, t2⟩ := HTS.out.tk htk
      obtain ⟨rb, ro, Ar, cr, rfl, hrb, r1, hrow⟩ := relV_at HRS.out hri
      have HNX := Lib.hid (show SL.candR ts rs S S.length (i + 1) = SL.candR ts rs S S.length i ++ (if SL.canB tk S.length (SL.pendR tk r S i S.length) then [SL.canC i tk (SL.pendR tk r S i S.length)] else []) by rw [SL.candR_succ, SL.canR_at htk hri])
      have HPB := Lib.hid (fun (x : Int) (m : Nat) (h : SL.pendR tk r S i S.length = some (x, m)) => SL.pendR_mem h)
      have HX0 := Lib.hid (HR0.out r (List.mem_of_getElem? hri))
      have HVT := Lib.hid (HOK.out tk (List.mem_of_getElem? htk))
      generalize SL.candR ts rs S S.length i = acc at *
      have hB0 := fun (W : World) (h : Gr wr W) => hbw.trans (h.1.mono hbw.size)
      have HPC := Lib.hid (fun (W : World) (h : Gr wr W) => (show Calls Try.prog 32 #[.agg #[.string tk.name, .int .i64 tk.cost, .int .i64 tk.per], .slice Ar r.length cr, .slice A S.length c, .int .i64 (i : Int), .int .i64 (S.length : Int)] W fun e w' => e = .returned (.tuple (pendV tk (SL.pendR tk r S i S.length))) ∧ Gr W w' from
        pendR_any tk r Ar cr S A S.length c i S.length W HVT.out (hrow.below (hB0 W h)) (by omega) HX0.out (HS.out.below (hB0 W h)) (by omega) HLR2.out (by omega)))
      have HTB := Lib.hid htb
      have x0 := fun n os => (((hB0 _ (gr_grown (Gr.refl wr) n os)).cell (p := ⟨tb, to_ + i * 3, none⟩) htb).trans t0)
      have x1 := fun n os => (((hB0 _ (gr_grown (Gr.refl wr) n os)).cell (p := ⟨tb, to_ + i * 3 + 1, none⟩) htb).trans t1)
      have x2 := fun n os => (((hB0 _ (gr_grown (Gr.refl wr) n os)).cell (p := ⟨tb, to_ + i * 3 + 2, none⟩) htb).trans t2)
      have x3 := fun n os => (((hB0 _ (gr_grown (Gr.refl wr) n os)).cell (p := ⟨rb, ro + i, none⟩) hrb).trans r1)
      have HGG := Lib.hid (fun n os => (⟨own_below HO.out (gr_grown (Gr.refl wr) n os).1, hB0 _ (gr_grown (Gr.refl wr) n os)⟩ : _ ∧ _))
      generalize SL.pendR tk r S i S.length = pr at *
      clear htk hri t0 t1 t2 r1 hrow how hbw hB0
      go_wp2_with fail
      cases pr with
      | none =>
        rw [show pendV tk none = #[.int .i64 0, .int .i64 0, .bool false] from rfl] at HPC
        have HN := Lib.hid (show SL.candR ts rs S S.length (i + 1) = acc by rw [HNX.out]; simp [SL.canB])
        go_quiet_grown ((go_at_call 32; exact Calls.grown_of (Calls.gr (HPC.out _ (gr_grown (Gr.refl _) _ _)))))
        have HG2 := Lib.hid (HGG.out nq osq)
        clear HGG x0 x1 x2 x3
        generalize grow (wr.drewN nq) osq = w2 at *
        go_wp2_with fail
        exact ⟨⟨i + 1, hil, by simp, by rw [HN.out]; exact HG2.out.1, HG2.out.2⟩, by simp [intOf]; omega⟩
      | some p =>
        obtain ⟨x, m⟩ := p
        rw [show pendV tk (some (x, m)) = #[.int .i64 x, .int .i64 (m : Int), .bool (decide ((m : Int) < tk.cost))] from rfl] at HPC
        obtain ⟨px1, px2⟩ := HPB.out x m rfl
        have hx0 := HX0.out x px1
        clear px1 HPB
        by_cases hmc : (m : Int) < tk.cost
        · have d1 : decide ((m : Int) < tk.cost) = true := decide_eq_true hmc
          obtain ⟨v1, v2, v3⟩ := SL.okTk_iff.1 HVT.out
          have hw : SL.okW tk ((m : Int) + 1) := ⟨HVT.out, by omega, by omega⟩
          obtain ⟨wb1, wb2⟩ := winR_bound hw
          have HW := Lib.hid (fun W => rwindow_any tk ((m : Int) + 1) W hw)
          have HNX2 := Lib.hid (show SL.candR ts rs S S.length (i + 1) = acc ++ (if decide (x + SL.winR tk ((m : Int) + 1) ≤ (S.length : Int)) then [(⟨i, tk, x, (m : Int) + 1⟩ : Cd)] else []) by
            rw [HNX.out]; unfold SL.canB SL.canC; simp only [d1, Bool.true_and])
          generalize SL.winD tk ((m : Int) + 1) = wd at *
          generalize SL.winR tk ((m : Int) + 1) = wR at *
          rw [d1] at HPC
          have z1 : IntKind.i64.wrap ((m : Int) + 1) = (m : Int) + 1 := IntWalk.i64_in _ (by omega)
          have z2 : IntKind.i64.wrap (x + wR) = x + wR := IntWalk.i64_in _ (by omega)
          go_quiet_grown ((go_at_call 32; exact Calls.grown_of (Calls.gr (HPC.out _ (gr_grown (Gr.refl _) _ _)))))
          have HG2 := Lib.hid (HGG.out nq osq)
          have y1 := x1 nq osq
          have y2 := x2 nq osq
          clear HGG x0 x1 x2 x3 hmc hw HPC HNX
          generalize grow (wr.drewN nq) osq = w2 at *
          go_wp2_with fail
          go_quiet ((go_at_call 33; exact Calls.quiet_of (HW.out _)))
          obtain ⟨w3, hw3⟩ : ∃ W, W = w2.drewN nq := ⟨_, rfl⟩
          have HO3 := Lib.hid (show w3.ownsRow w.heap.size 80 5 (.slice oA acc.length oc) acc.length (rcC acc) by rw [hw3]; exact HG2.out.1)
          have HB3 := Lib.hid (show Below w.heap.size w w3 by rw [hw3]; exact below_drewN HG2.out.2 nq)
          have y3 : w3.cell? ⟨tb, to_ + i * 3 + 1, none⟩ = some (.int .i64 tk.cost) := by rw [hw3]; exact y1
          have y4 : w3.cell? ⟨tb, to_ + i * 3 + 2, none⟩ = some (.int .i64 tk.per) := by rw [hw3]; exact y2
          rw [← hw3]
          clear hw3 y1 y2 HW HG2
          have hs3 := HB3.out.size
          have htb3 : tb < w3.heap.size := by have := HTB.out; omega
          by_cases hlt : x + wR ≤ (S.length : Int)
          · have d2 : decide (x + wR ≤ (S.length : Int)) = true := decide_eq_true hlt
            have HN := Lib.hid (show SL.candR ts rs S S.length (i + 1) = acc ++ [(⟨i, tk, x, (m : Int) + 1⟩ : Cd)] by rw [HNX2.out, d2]; rfl)
            have HBA := Lib.hid (HB3.out.drew.alloc (show w.heap.size ≤ w3.drew.heap.size from hs3) (.cells #[.int .i64 (i : Int), .int .i64 tk.cost, .int .i64 tk.per, .int .i64 x, .int .i64 ((m : Int) + 1)] 80))
            have HOA : Hid ((w3.drew.alloc (.cells #[.int .i64 (i : Int), .int .i64 tk.cost, .int .i64 tk.per, .int .i64 x, .int .i64 ((m : Int) + 1)] 80)).ownsRow w.heap.size 80 5 (.slice oA acc.length oc) acc.length (rcC acc)) := Lib.hid (World.ownsRow.alloc (show w3.drew.ownsRow w.heap.size 80 5 (.slice oA acc.length oc) acc.length (rcC acc) from HO3.out) _)
            clear hlt HNX2
            go_wp2_with fail
            go_region_law (first | (refine step_append_lies _ (by rfl) _ _ 74 (by rfl) w.heap.size 80 i1 (.agg #[.int .i64 0, .int .i64 0, .int .i64 0, .int .i64 0, .int .i64 0]) 5 40 Try.underlying74 K0.out K1.out K2.out K3.out (by rfl) (by decide) _ _ _ (by rfl) HOA.out ⟨w3.heap.size, 0, none⟩ 1 1 [.int .i64 (i : Int), .int .i64 tk.cost, .int .i64 tk.per, .int .i64 x, .int .i64 ((m : Int) + 1)] (by rfl) (by rfl) (World.news_of_block (cs := #[.int .i64 (i : Int), .int .i64 tk.cost, .int .i64 tk.per, .int .i64 x, .int .i64 ((m : Int) + 1)]) (heap_alloc_new w3.drew _)) (by intro u hu; simp at hu; rcases hu with rfl | rfl | rfl | rfl | rfl <;> rfl) (by decide) (by unfold maxLen; omega) (by omega) (by simp; omega) (w3.heap.size + 1) (by simp) ?_; intro g cap w8 hown8 hg8 hat8 hlt8; have hB8 : Below w.heap.size w w8 := Below.grown HBA.out hg8 (by simp; omega) (fun k hk => (HOA.out.lt k hk).1)))
            all_goals
              have HB8 := Lib.hid hB8
              have HR8 := Lib.hid (show w8.ownsRow w.heap.size 80 5 (.slice (some ⟨g, 0, none⟩) (acc.length + 1) cap) (acc ++ [(⟨i, tk, x, (m : Int) + 1⟩ : Cd)]).length (rcC (acc ++ [(⟨i, tk, x, (m : Int) + 1⟩ : Cd)])) from (by
                have h := hown8
                simpa [rcC, rcL] using h))
              clear hown8 hg8 hlt8 hB8 hat8
              go_wp2_with fail
              exact ⟨⟨i + 1, hil, by simp, by rw [HN.out]; exact HR8.out, HB8.out⟩, by simp [intOf]; omega⟩
          · have d2 : decide (x + wR ≤ (S.length : Int)) = false := decide_eq_false hlt
            have HN := Lib.hid (show SL.candR ts rs S S.length (i + 1) = acc by rw [HNX2.out, d2]; simp)
            clear hlt HNX2
            go_wp2_with fail
            exact ⟨⟨i + 1, hil, by simp, by rw [HN.out]; exact HO3.out, HB3.out⟩, by simp [intOf]; omega⟩
        · have d1 : decide ((m : Int) < tk.cost) = false := decide_eq_false hmc
          have HN := Lib.hid (show SL.candR ts rs S S.length (i + 1) = acc by rw [HNX.out]; unfold SL.canB; simp only [d1, Bool.false_and]; simp)
          rw [d1] at HPC
          clear hmc HNX
          go_quiet_grown ((go_at_call 32; exact Calls.grown_of (Calls.gr (HPC.out _ (gr_grown (Gr.refl _) _ _)))))
          have HG2 := Lib.hid (HGG.out nq osq)
          clear HGG x0 x1 x2 x3
          generalize grow (wr.drewN nq) osq = w2 at *
          go_wp2_with fail
          exact ⟨⟨i + 1, hil, by simp, by rw [HN.out]; exact HG2.out.1, HG2.out.2⟩, by simp [intOf]; omega⟩
    · have q1 : ¬ (i : Int) < (ts.length : Int) := by omega
      have hie : i = ts.length := by omega
      subst hie
      have HRO := Lib.hid (row_own how)
      generalize wr = w6 at *
      generalize hLL : SL.candR ts rs S S.length ts.length = L at *
      clear hLL
      clear how hbw HTS HRS HR20 HR0 HLR2 HS
      go_wp2_with fail
      go_loopw [17, 18] (fun ov v wr => ∃ i : Nat, i ≤ ts.length ∧ v = .int .i64 (i : Int) ∧ wr.ownsRow w6.heap.size 3 1 ov (SL.nextL L cores i).length ((SL.ints (SL.nextL L cores i)).map (Value.int .i64)) ∧ Below w6.heap.size w6 wr) (fun _ v _ => ts.length - (intOf v).toNat)
      case atStart => exact ⟨0, Nat.zero_le _, rfl, World.ownsRow_nil _ _ _ _, Below.refl _ _⟩
      case round =>
        obtain ⟨i, hi, rfl, how, hbw⟩ := hrel
        obtain ⟨uA, uc, rfl⟩ := own_form how
        have HO2 := Lib.hid how
        have HB2 := Lib.hid hbw
        by_cases hil : i < ts.length
        · have q1 : (i : Int) < (ts.length : Int) := by omega
          have HLN := Lib.hid (show (SL.nextL L cores i).length ≤ 64 from by
            have h1 := SL.nextL_len L cores i
            have h2 : i * L.length ≤ 8 * 8 := Nat.mul_le_mul (by omega) (by omega)
            omega)
          clear how hbw
          generalize wr = w7 at *
          go_wp2_with fail
          go_loopw [17, 19] (fun ov v wr => ∃ (k : Nat) (l : List Nat), k ≤ L.length ∧ v = .int .i64 (k : Int) ∧ Hid (l = SL.nextL L cores i ++ SL.nextI L cores i (L.take k)) ∧ wr.ownsRow w6.heap.size 3 1 ov l.length ((SL.ints l).map (Value.int .i64)) ∧ Below w6.heap.size w6 wr) (fun _ v _ => L.length - (intOf v).toNat)
          case atStart => exact ⟨0, SL.nextL L cores i, Nat.zero_le _, rfl, Lib.hid (by simp [SL.nextI]), HO2.out, HB2.out⟩
          case round =>
            obtain ⟨k, l, hk, rfl, HL1, how, hbw⟩ := hrel
            obtain ⟨uA, uc, rfl⟩ := own_form how
            have HO3 := Lib.hid how
            have HB3 := Lib.hid hbw
            by_cases hkl : k < L.length
            · have q2 : (k : Int) < (L.length : Int) := by omega
              obtain ⟨c, hc⟩ : ∃ c, L[k]? = some c := ⟨_, List.getElem?_eq_getElem hkl⟩
              obtain ⟨cb, co, rfl, hcb, c0, c1, c2, c3, c4⟩ := rc_at HRO.out hc
              have HNS := Lib.hid (show SL.nextI L cores i (L.take (k + 1)) = SL.nextI L cores i (L.take k) ++ (if c.num = i ∧ (SL.rank L c : Int) < cores then [i] else []) by rw [SL.take_snoc hc, SL.nextI_snoc])
              have hll : l.length ≤ 80 := by
                have h1 := SL.nextI_len L cores i (L.take k)
                rw [List.length_take] at h1
                have h2 := HLN.out
                rw [HL1.out, List.length_append]
                omega
              have HLL := Lib.hid hll
              have d0 := (hbw.cell (p := ⟨cb, co + k * 5, none⟩) hcb).trans c0
              have hs7 := hbw.size
              by_cases hci : c.num = i
              · have e1 : ((c.num : Int) != (i : Int)) = false := by simp [hci]
                have HBF := Lib.hid (fun (d : Cd) (hd : d ∈ L) W => (show Calls Try.prog 34 #[.agg #[.int .i64 (d.num : Int), .int .i64 d.tk.cost, .int .i64 d.tk.per, .int .i64 d.rel, .int .i64 d.idx], .agg #[.int .i64 (c.num : Int), .int .i64 c.tk.cost, .int .i64 c.tk.per, .int .i64 c.rel, .int .i64 c.idx]] W fun e w' => e = .returned (.bool (SL.bef d c)) ∧ Gr W w' from rbefore_any d c W (HCO.out d hd) (HCO.out c (List.mem_of_getElem? hc))))
                have HC0 := Lib.hid c0
                have HC1 := Lib.hid c1
                have HC2 := Lib.hid c2
                have HC3 := Lib.hid c3
                have HC4 := Lib.hid c4
                have HCK := Lib.hid hc
                have HCI := Lib.hid hci
                clear how hbw c0 c1 c2 c3 c4 hc hci hll
                generalize wr = w8 at *
                go_wp2_with fail
                go_loopw [20, 21] (fun mv v wr => ∃ j : Nat, j ≤ L.length ∧ v = .int .i64 (j : Int) ∧ mv = .int .i64 (SL.rankT L c j : Int) ∧ Gr w8 wr) (fun _ v _ => L.length - (intOf v).toNat)
                case atStart => exact ⟨0, Nat.zero_le _, rfl, rfl, Gr.refl _⟩
                case round =>
                  obtain ⟨j, hj, rfl, rfl, hg⟩ := hrel
                  have HG := Lib.hid hg
                  have hrk := SL.rankT_le L c j
                  by_cases hjl : j < L.length
                  · have q3 : (j : Int) < (L.length : Int) := by omega
                    obtain ⟨d, hd⟩ : ∃ d, L[j]? = some d := ⟨_, List.getElem?_eq_getElem hjl⟩
                    have HRS := Lib.hid (SL.rankT_succ (c := c) hd)
                    by_cases hjk : j = k
                    · have e2 : ((j : Int) != (k : Int)) = false := by simp [hjk]
                      have HR2 := Lib.hid (show SL.rankT L c (j + 1) = SL.rankT L c j from by
                        have h1 := HCK.out
                        rw [← hjk, hd] at h1
                        injection h1 with h1
                        rw [HRS.out, h1, SL.bef_irr]; simp)
                      clear hd hg hjk HRS
                      generalize SL.rankT L c j = m at *
                      go_wp2_with fail
                      go_quiet (fail)
                      go_wp2_with fail
                      exact ⟨⟨j + 1, hjl, by simp, by rw [HR2.out], HG.out.drewN _⟩, by simp [intOf]; omega⟩
                    · have e2 : ((j : Int) != (k : Int)) = true := by simp; omega
                      obtain ⟨db, do_, hA, _, f0, f1, f2, f3, f4⟩ := rc_at HRO.out hd
                      injection hA with hA
                      injection hA with g1 g2
                      subst g1 g2
                      have HBE := Lib.hid (HBF.out d (List.mem_of_getElem? hd))
                      have hB := fun n os => HB3.out.trans ((gr_grown HG.out n os).1.mono hs7)
                      have x0 := fun n os => ((hB n os).cell (p := ⟨cb, co + k * 5, none⟩) hcb).trans HC0.out
                      have x1 := fun n os => ((hB n os).cell (p := ⟨cb, co + k * 5 + 1, none⟩) hcb).trans HC1.out
                      have x2 := fun n os => ((hB n os).cell (p := ⟨cb, co + k * 5 + 2, none⟩) hcb).trans HC2.out
                      have x3 := fun n os => ((hB n os).cell (p := ⟨cb, co + k * 5 + 3, none⟩) hcb).trans HC3.out
                      have x4 := fun n os => ((hB n os).cell (p := ⟨cb, co + k * 5 + 4, none⟩) hcb).trans HC4.out
                      have y0 := fun n os => ((hB n os).cell (p := ⟨cb, co + j * 5, none⟩) hcb).trans f0
                      have y1 := fun n os => ((hB n os).cell (p := ⟨cb, co + j * 5 + 1, none⟩) hcb).trans f1
                      have y2 := fun n os => ((hB n os).cell (p := ⟨cb, co + j * 5 + 2, none⟩) hcb).trans f2
                      have y3 := fun n os => ((hB n os).cell (p := ⟨cb, co + j * 5 + 3, none⟩) hcb).trans f3
                      have y4 := fun n os => ((hB n os).cell (p := ⟨cb, co + j * 5 + 4, none⟩) hcb).trans f4
                      clear hd hg hjk f0 f1 f2 f3 f4 hB
                      generalize SL.rankT L c j = m at *
                      generalize SL.bef d c = bf at *
                      go_wp2_with fail
                      go_quiet_grown ((go_at_call 34; exact Calls.grown_of (Calls.gr (HBE.out _))))
                      have HG2 := Lib.hid (gr_grown HG.out nq osq)
                      clear x0 x1 x2 x3 x4 y0 y1 y2 y3 y4
                      generalize grow (wr.drewN nq) osq = w9 at *
                      cases bf with
                      | false =>
                        have HR2 := Lib.hid (show SL.rankT L c (j + 1) = m from by rw [HRS.out]; simp)
                        go_wp2_with fail
                        exact ⟨⟨j + 1, hjl, by simp, by rw [HR2.out], HG2.out⟩, by simp [intOf]; omega⟩
                      | true =>
                        have HR2 := Lib.hid (show SL.rankT L c (j + 1) = m + 1 from by rw [HRS.out]; simp)
                        have z1 : IntKind.i64.wrap ((m : Int) + 1) = (m : Int) + 1 := IntWalk.i64_in _ (by omega)
                        go_wp2_with fail
                        exact ⟨⟨j + 1, hjl, by simp, by rw [HR2.out]; simp, HG2.out⟩, by simp [intOf]; omega⟩
                  · have q3 : ¬ (j : Int) < (L.length : Int) := by omega
                    have HRA := Lib.hid (show SL.rankT L c j = SL.rank L c by rw [show j = L.length from by omega, SL.rankT_all])
                    rw [HRA.out] at hrk ⊢
                    have hB8 := HB3.out.trans (HG.out.1.mono hs7)
                    have HB8 := Lib.hid hB8
                    have HO8 := Lib.hid (own_below HO3.out HG.out.1)
                    have hs8 := hB8.size
                    clear hg HRA hB8
                    generalize SL.rank L c = rk at *
                    by_cases hrc : (rk : Int) < cores
                    · have d1 : decide ((rk : Int) < cores) = true := decide_eq_true hrc
                      have HN := Lib.hid (show l ++ [i] = SL.nextL L cores i ++ SL.nextI L cores i (L.take (k + 1)) by rw [HNS.out, if_pos ⟨HCI.out, hrc⟩, HL1.out, List.append_assoc])
                      clear hrc HNS
                      go_wp2_with (at_builtin; refine wpList_append_own _ rfl _ _ 36 rfl w6.heap.size 3 i2 (.int .i64 0) 1 8 Try.underlying36 L0.out L1.out L2.out L3.out rfl (by decide) _ _ _ rfl (HO8.out.alloc _) ⟨wr.heap.size, 0, none⟩ 1 1 [.int .i64 (i : Int)] rfl rfl ?c1 ?c2 ?c3 ?c4 ?c5 ?_)
                      case c2 => rfl
                      case c3 => have := HLL.out; unfold maxLen; omega
                      case c4 => have := HLL.out; omega
                      case c5 => first | omega | (simp; omega)
                      intro v' w9 hown9 hg9 _
                      have hlt9 := (HO8.out.alloc (.cells #[.int .i64 (i : Int)] 3)).lt
                      have HB9 := Lib.hid (show Below w6.heap.size w6 w9 from Below.grown (HB8.out.alloc hs8 (.cells #[.int .i64 (i : Int)] 3)) hg9 (by simp; omega) (fun k hk => (hlt9 k hk).1))
                      have HR9 := Lib.hid (show w9.ownsRow w6.heap.size 3 1 v' (l ++ [i]).length ((SL.ints (l ++ [i])).map (Value.int .i64)) from (by
                        simpa [SL.ints] using hown9))
                      clear hown9 hg9 hlt9
                      go_wp2_with fail
                      exact ⟨⟨k + 1, l ++ [i], hkl, by simp, HN, HR9.out, HB9.out⟩, by simp [intOf]; omega⟩
                    · have d1 : decide ((rk : Int) < cores) = false := decide_eq_false hrc
                      have HN := Lib.hid (show l = SL.nextL L cores i ++ SL.nextI L cores i (L.take (k + 1)) by rw [HNS.out, if_neg (fun h => hrc h.2), HL1.out]; simp)
                      clear hrc HNS
                      go_wp2_with fail
                      exact ⟨⟨k + 1, l, hkl, by simp, HN, HO8.out, HB8.out⟩, by simp [intOf]; omega⟩
              · have e1 : ((c.num : Int) != (i : Int)) = true := by simp; omega
                have HN := Lib.hid (show l = SL.nextL L cores i ++ SL.nextI L cores i (L.take (k + 1)) by rw [HNS.out, if_neg (fun h => hci h.1), HL1.out]; simp)
                clear how hbw c0 c1 c2 c3 c4 hc hci hll HNS
                go_wp2_with fail
                exact ⟨⟨k + 1, l, hkl, by simp, HN, HO3.out, HB3.out⟩, by simp [intOf]; omega⟩
            · have q2 : ¬ (k : Int) < (L.length : Int) := by omega
              have HN := Lib.hid (show l = SL.nextL L cores (i + 1) by rw [HL1.out, SL.nextL_succ, show L.take k = L from List.take_of_length_le (by omega)])
              clear how hbw
              go_wp2_with fail
              exact ⟨⟨i + 1, hil, by simp, by rw [← HN.out]; exact HO3.out, HB3.out⟩, by simp [intOf]; omega⟩
        · have q1 : ¬ (i : Int) < (ts.length : Int) := by omega
          have HE := Lib.hid (show SL.nextL L cores i = R by rw [HNR.out, show i = ts.length from by omega])
          have HB9 := Lib.hid (HB.out.trans (hbw.mono HB.out.size))
          have HO9 := Lib.hid (own_mono how HB.out.size)
          clear how hbw
          rw [HE.out] at *
          go_wp2_with fail
          go_ret
          exact ⟨_, rfl, HO9.out, HB9.out⟩
end
end Go.Proofs.Ytgfojgabobakdaa
