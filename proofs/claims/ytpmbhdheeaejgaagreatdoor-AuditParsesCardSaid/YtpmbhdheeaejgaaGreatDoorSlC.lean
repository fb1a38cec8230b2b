/- The group deadline, the priorities, the comparison that the sort is given. -/
import Derived.Test.YtpmbhdheeaejgaaGreatDoorSlB
import Derived.Laws.EntriesVeiled
namespace Go.Proofs.YtpmbhdheeaejgaaGreatDoor
open Go.RowKit Go.Sort
open SL (Tk Jb Ms Cd)
theorem bsr_bound (f : Nat → Bool) : ∀ (k i j : Nat), i ≤ j → i ≤ SL.bsr f k i j ∧ SL.bsr f k i j ≤ j
  | 0, i, j, h => ⟨Nat.le_refl _, h⟩
  | k + 1, i, j, h => by
    rw [SL.bsr]
    by_cases hij : i < j
    · rw [if_pos hij]
      by_cases hf : f ((i + j) / 2) = true
      · rw [if_pos hf]
        have := bsr_bound f k i ((i + j) / 2) (by omega)
        omega
      · rw [if_neg hf]
        have := bsr_bound f k ((i + j) / 2 + 1) j (by omega)
        omega
    · rw [if_neg hij]
      omega
theorem cf_g1 (u v x : Value) (W : World) : Sem.run Tryz.prog (callFunc 126 #[u, v, x]) W = .ok (Next.enter 126 #[u, v, x]) W := by kernel_rfl
theorem cf_g2 (u v x : Value) (W : World) : Sem.run Tryz.prog (callFunc 128 #[u, v, x]) W = .ok (Next.enter 128 #[u, v, x]) W := by kernel_rfl
section
set_option maxHeartbeats 1000000
set_option maxRecDepth 100000
/-- The end of a group, as the closure reckons it. -/
theorem gend_any (t : Tk) (m : Int) (bt bg : Nat) (w : World) (hp : 0 ≤ t.per ∧ t.per ≤ 1000) (hg : 1 ≤ t.per - t.cost ∧ t.per - t.cost ≤ 1000) (h0 : 0 ≤ m) (h1 : m ≤ 2000) (c2 : w.cell? ⟨bt, 2, none⟩ = some (.int .i64 t.per)) (cg : w.cell? ⟨bg, 0, none⟩ = some (.int .i64 (t.per - t.cost))) :
    Calls Tryz.prog 126 #[.int .i64 m, .pointer (some ⟨bt, 0, none⟩), .pointer (some ⟨bg, 0, none⟩)] w fun e w' => e = .returned (.int .i64 (SL.gend t m)) ∧ w = w' := by
  obtain ⟨m3, m4⟩ := prod_bounds (a := m) (b := t.per) (x := 2000) (y := 1000) h0 h1 hp.1 hp.2
  have HUP := Lib.hid (fun W => up_any (m * t.per) (t.per - t.cost) W (by omega) (by omega) (by omega))
  have z3 : IntKind.i64.wrap (m * t.per) = m * t.per := IntWalk.i64_in _ (by omega)
  have hR : SL.gend t m = SL.up (m * t.per) (t.per - t.cost) := rfl
  rw [hR]
  generalize t.per - t.cost = g at *
  clear hR hp hg h0 h1
  go_enter Tryz.func126, Tryz.ntmps126
  go_wp2_with fail
  refine (HUP.out _).mono ?_
  rintro e w2 ⟨rfl, rfl⟩
  go_wp2_with fail
  go_ret
  exact ⟨rfl, rfl⟩
/-- sort.Search over a function that only reads. -/
theorem search_any (f : Nat → Bool) (g : FuncId) (cb : Array Value) (n : Nat) (w : World) (hn : n ≤ 100000)
    (hf : ∀ (k : Nat) (q : Nat), k < n → Calls Tryz.prog g (#[.int .i64 (k : Int)] ++ cb) (w.drewN q) fun e w' => e = .returned (.bool (f k)) ∧ ∃ m, w' = w.drewN m)
    (eg : ∀ args W, (callFunc g args).run Tryz.prog W = .ok (.enter g args) W) :
    Calls Tryz.prog 127 #[.int .i64 (n : Int), .func (.func g) #[] cb] w fun e w' => e = .returned (.int .i64 (SL.bsr f n 0 n : Int)) ∧ ∃ m, w' = w.drewN m := by
  have hnot : ∀ (x : Bool) (w : World), (Op.unary .not (.bool x)).run Tryz.prog w = .ok (.bool (!x)) w := fun _ _ => rfl
  obtain ⟨R, hR⟩ : ∃ R, SL.bsr f n 0 n = R := ⟨_, rfl⟩
  have HF := Lib.hid hf
  have HR := Lib.hid hR
  rw [hR]
  clear hf hR
  go_enter Tryz.func127, Tryz.ntmps127
  go_wp2_with fail
  go_loopw [5, 6] (fun a b wr => ∃ i j k m : Nat, a = .int .i64 (i : Int) ∧ b = .int .i64 (j : Int) ∧ j ≤ n ∧ j - i ≤ k ∧ SL.bsr f k i j = R ∧ wr = w.drewN m) (fun a b _ => ((intOf b) - (intOf a)).toNat)
  case atStart => exact ⟨0, n, n, 0, rfl, rfl, Nat.le_refl _, by omega, HR.out, rfl⟩
  case round =>
    obtain ⟨i, j, k, m, rfl, rfl, hjn, hk, hb, hwr⟩ := hrel
    have HB := Lib.hid hb
    have HW := Lib.hid hwr
    clear hb hwr
    by_cases hij : i < j
    · have q0 : (i : Int) < (j : Int) := by omega
      obtain ⟨k', rfl⟩ : ∃ k', k = k' + 1 := ⟨k - 1, by omega⟩
      have hcl := HF.out ((i + j) / 2) m (by omega)
      rw [← HW.out, show (((i + j) / 2 : Nat) : Int) = ((i : Int) + (j : Int)) / 2 from by omega] at hcl
      have HCL := Lib.hid hcl
      have hb := HB.out
      rw [SL.bsr, if_pos hij] at hb
      generalize hfh : f ((i + j) / 2) = fh at *
      have HB2 := Lib.hid hb
      clear hcl hb HB hfh
      go_wp2_with fail
      refine HCL.out.mono ?_
      rintro e w2 ⟨rfl, m2, rfl⟩
      cases fh with
      | true =>
        have HB3 := Lib.hid (show SL.bsr f k' i ((i + j) / 2) = R from HB2.out)
        go_wp2_with fail
        exact ⟨⟨i, (i + j) / 2, k', m2, by simp, by simp, by omega, by omega, HB3.out, rfl⟩, by simp [intOf]; omega⟩
      | false =>
        have HB3 := Lib.hid (show SL.bsr f k' ((i + j) / 2 + 1) j = R from HB2.out)
        go_wp2_with fail
        exact ⟨⟨(i + j) / 2 + 1, j, k', m2, by simp, by simp, by omega, by omega, HB3.out, rfl⟩, by simp [intOf]; omega⟩
    · have q0 : ¬ (i : Int) < (j : Int) := by omega
      have hRi : R = i := by
        have := HB.out
        cases k with
        | zero => exact this.symm
        | succ k => rw [SL.bsr, if_neg hij] at this; exact this.symm
      have HRI := Lib.hid hRi
      clear hRi
      go_wp2_with fail
      go_ret
      rw [HRI.out]
      exact ⟨rfl, m, HW.out⟩
/-- Whether a group ends at the deadline or behind it, as the closure tells. -/
theorem gcmp_any (t : Tk) (D : Int) (n : Nat) (bt bg be bs : Nat) (W : World) (hn : n ≤ 1000) (hp : 0 ≤ t.per ∧ t.per ≤ 1000) (hg : 1 ≤ t.per - t.cost ∧ t.per - t.cost ≤ 1000)
    (c2 : W.cell? ⟨bt, 2, none⟩ = some (.int .i64 t.per)) (cg : W.cell? ⟨bg, 0, none⟩ = some (.int .i64 (t.per - t.cost)))
    (ce : W.cell? ⟨be, 0, none⟩ = some (.func (.func 126) #[] #[.pointer (some ⟨bt, 0, none⟩), .pointer (some ⟨bg, 0, none⟩)])) (cs : W.cell? ⟨bs, 2, none⟩ = some (.int .i64 D)) :
    Calls Tryz.prog 128 #[.int .i64 (n : Int), .pointer (some ⟨be, 0, none⟩), .pointer (some ⟨bs, 0, none⟩)] W fun e w' => e = .returned (.bool (decide (D ≤ SL.gend t ((n : Int) + 1)))) ∧ ∃ m, w' = W.drewN m := by
  have HG := Lib.hid (fun q => quiet_left (gend_any t ((n : Int) + 1) bt bg (W.drewN q) hp hg (by omega) (by omega) c2 cg))
  have hcf := fun u v x W => cf_g1 u v x W
  have z1 : IntKind.i64.wrap ((n : Int) + 1) = (n : Int) + 1 := IntWalk.i64_in _ (by omega)
  generalize SL.gend t ((n : Int) + 1) = G at *
  clear c2 cg hp hg
  go_enter Tryz.func128, Tryz.ntmps128
  go_wp2_with fail
  go_quiet ((go_at_call 126; exact HG.out _))
  go_wp2_with fail
  go_ret
  exact ⟨rfl, _, rfl⟩
theorem group_any (t : Tk) (i : Int) (w : World) (hw : SL.okW t i) (hh : SL.heavy t = true) : Calls Tryz.prog 112 #[.agg (tkV t), .int .i64 i] w fun e w' => e = .returned (.int .i64 (SL.grp t i)) ∧ Gr w w' := by
  obtain ⟨hv, hi1, hi2⟩ := hw
  obtain ⟨v1, v2, v3⟩ := SL.okTk_iff.1 hv
  have hcp : t.cost < t.per := by unfold SL.heavy at hh; simp at hh; exact hh.1
  obtain ⟨n, hn⟩ : ∃ n : Nat, t.per - t.cost = (n : Int) + 1 := ⟨(t.per - t.cost - 1).toNat, by omega⟩
  have hn1 : n ≤ 1000 := by omega
  have hk0 : Blk (w.alloc (.cells #[.string t.name, .int .i64 t.cost, .int .i64 t.per] 34)) w.heap.size 34 (tkV t) := Blk.new w 34 (tkV t)
  have HB1 := Lib.hid ((Gr.refl w).alloc (.cells #[.string t.name, .int .i64 t.cost, .int .i64 t.per] 34))
  have HK0 := Lib.hid hk0
  obtain ⟨x0, x1, x2⟩ : (w.alloc (.cells #[.string t.name, .int .i64 t.cost, .int .i64 t.per] 34)).cell? ⟨w.heap.size, 0, none⟩ = some (.string t.name) ∧ (w.alloc (.cells #[.string t.name, .int .i64 t.cost, .int .i64 t.per] 34)).cell? ⟨w.heap.size, 1, none⟩ = some (.int .i64 t.cost) ∧ (w.alloc (.cells #[.string t.name, .int .i64 t.cost, .int .i64 t.per] 34)).cell? ⟨w.heap.size, 2, none⟩ = some (.int .i64 t.per) := ⟨hk0.cell 0, hk0.cell 1, hk0.cell 2⟩
  have HW := Lib.hid (fun W => (show Calls Tryz.prog 79 #[.agg #[.string t.name, .int .i64 t.cost, .int .i64 t.per], .int .i64 i] W fun e w' => e = .returned (.tuple #[.agg #[.int .i64 i, .int .i64 (SL.winR t i), .int .i64 (SL.winD t i)], .int .i64 0]) ∧ Gr W w' from window_any t i W ⟨hv, hi1, hi2⟩))
  have HH := Lib.hid (fun W => (show Calls Tryz.prog 111 #[.agg #[.string t.name, .int .i64 t.cost, .int .i64 t.per]] W fun e w' => e = .returned (.bool (SL.heavy t)) ∧ Gr W w' from heavy_any t W hv))
  rw [hh] at HH
  have hR : SL.grp t i = SL.gend t (1 + (SL.bsr (fun k => decide (SL.winD t i ≤ SL.gend t ((k : Int) + 1))) n 0 n : Nat)) := by
    unfold SL.grp
    rw [show (t.per - t.cost - 1).toNat = n from by omega]
  rw [hR]
  generalize SL.winR t i = wr at *
  generalize SL.winD t i = wd at *
  have hbr := (bsr_bound (fun k => decide (wd ≤ SL.gend t ((k : Int) + 1))) n 0 n (Nat.zero_le _)).2
  have HGE := Lib.hid (fun (m : Int) (bt bg : Nat) (W : World) (h0 : 0 ≤ m) (h1 : m ≤ 2000) (c2 : W.cell? ⟨bt, 2, none⟩ = some (.int .i64 t.per)) (cg : W.cell? ⟨bg, 0, none⟩ = some (.int .i64 ((n : Int) + 1))) => gend_any t m bt bg W (by omega) (by omega) h0 h1 c2 (by rw [hn]; exact cg))
  have HGC := Lib.hid (fun (k : Nat) (bt bg be bs : Nat) (W : World) (hk : k ≤ 1000) (c2 : W.cell? ⟨bt, 2, none⟩ = some (.int .i64 t.per)) (cg : W.cell? ⟨bg, 0, none⟩ = some (.int .i64 ((n : Int) + 1))) (ce) (cs) => gcmp_any t wd k bt bg be bs W hk (by omega) (by omega) c2 (by rw [hn]; exact cg) ce cs)
  clear hk0 hv hi1 hi2 hR v1 v2 v3 hcp hh
  generalize hBR : SL.bsr (fun k => decide (wd ≤ SL.gend t ((k : Int) + 1))) n 0 n = BR at *
  have HBR := Lib.hid hBR
  clear hBR
  rw [show tkV t = #[.string t.name, .int .i64 t.cost, .int .i64 t.per] from rfl]
  have hcf1 := fun u v x W => cf_g1 u v x W
  go_enter Tryz.func112, Tryz.ntmps112
  go_wp2_with fail
  refine (HW.out _).mono ?_
  rintro e w2 ⟨rfl, hb⟩
  have HB2 := Lib.hid ((HB1.out.trans hb).alloc (.cells #[.int .i64 i, .int .i64 wr, .int .i64 wd] 128))
  have hk02 := (HK0.out.below hb.1).alloc (.cells #[.int .i64 i, .int .i64 wr, .int .i64 wd] 128)
  have HK02 := Lib.hid hk02
  have HKS := Lib.hid (show Blk (w2.alloc (.cells #[.int .i64 i, .int .i64 wr, .int .i64 wd] 128)) w2.heap.size 128 (stV i wr wd) from Blk.new w2 _ _)
  have hl2 : w.heap.size < w2.heap.size := (HK0.out.below hb.1).lt
  clear x0 x1 x2 hb HB1 HK0 HW
  obtain ⟨x0, x1, x2⟩ : (w2.alloc (.cells #[.int .i64 i, .int .i64 wr, .int .i64 wd] 128)).cell? ⟨w.heap.size, 0, none⟩ = some (.string t.name) ∧ (w2.alloc (.cells #[.int .i64 i, .int .i64 wr, .int .i64 wd] 128)).cell? ⟨w.heap.size, 1, none⟩ = some (.int .i64 t.cost) ∧ (w2.alloc (.cells #[.int .i64 i, .int .i64 wr, .int .i64 wd] 128)).cell? ⟨w.heap.size, 2, none⟩ = some (.int .i64 t.per) := ⟨hk02.cell 0, hk02.cell 1, hk02.cell 2⟩
  go_wp2_with fail
  refine (HH.out _).mono ?_
  rintro e w3 ⟨rfl, hb⟩
  have HB3 := Lib.hid (HB2.out.trans hb)
  have hk03 := HK02.out.below hb.1
  have hks3 := HKS.out.below hb.1
  generalize w2.heap.size = bs at *
  have hlb : bs < w3.heap.size := hks3.lt
  have hlt : w.heap.size < w3.heap.size := hk03.lt
  have y1 : w3.cell? ⟨w.heap.size, 1, none⟩ = some (.int .i64 t.cost) := hk03.cell 1
  have y2 : w3.cell? ⟨w.heap.size, 2, none⟩ = some (.int .i64 t.per) := hk03.cell 2
  have y3 : w3.cell? ⟨bs, 2, none⟩ = some (.int .i64 wd) := hks3.cell 2
  clear x0 x1 x2 hb HB2 HK02 HKS HH hk03 hks3 hk02
  go_wp2_with fail
  have HSE := Lib.hid (fun W hf => search_any (fun k => decide (wd ≤ SL.gend t ((k : Int) + 1))) 128 #[.pointer (some ⟨w3.heap.size + 1, 0, none⟩), .pointer (some ⟨bs, 0, none⟩)] n W (by omega) hf (fun args W => by kernel_rfl))
  rw [HBR.out] at HSE
  generalize hcl : Value.func (.func 126) #[] #[.pointer (some ⟨w.heap.size, 0, none⟩), .pointer (some ⟨w3.heap.size, 0, none⟩)] = cl at *
  have HCL := Lib.hid hcl
  have ha5 := ((Gr.refl w3).alloc (.cells #[.int .i64 ((n : Int) + 1)] 3)).alloc (.cells #[cl] 95)
  have HB5 := Lib.hid (HB3.out.trans ha5)
  have u2 : ((w3.alloc (.cells #[.int .i64 ((n : Int) + 1)] 3)).alloc (.cells #[cl] 95)).cell? ⟨w.heap.size, 2, none⟩ = some (.int .i64 t.per) := (ha5.1.cell (p := ⟨w.heap.size, 2, none⟩) hlt).trans y2
  have u3 : ((w3.alloc (.cells #[.int .i64 ((n : Int) + 1)] 3)).alloc (.cells #[cl] 95)).cell? ⟨bs, 2, none⟩ = some (.int .i64 wd) := (ha5.1.cell (p := ⟨bs, 2, none⟩) hlb).trans y3
  have u4 : ((w3.alloc (.cells #[.int .i64 ((n : Int) + 1)] 3)).alloc (.cells #[cl] 95)).cell? ⟨w3.heap.size, 0, none⟩ = some (.int .i64 ((n : Int) + 1)) := ((Blk.new w3 3 #[.int .i64 ((n : Int) + 1)]).alloc _).cell 0
  have u5 : ((w3.alloc (.cells #[.int .i64 ((n : Int) + 1)] 3)).alloc (.cells #[cl] 95)).cell? ⟨w3.heap.size + 1, 0, none⟩ = some cl := (blk_second w3 3 95 #[.int .i64 ((n : Int) + 1)] #[cl]).cell 0
  generalize (w3.alloc (.cells #[.int .i64 ((n : Int) + 1)] 3)).alloc (.cells #[cl] 95) = W5 at *
  clear ha5 y1 y2 y3 HB3
  refine (HSE.out W5 (fun k q hk => ?_)).mono ?_
  · have h := HGC.out k w.heap.size w3.heap.size (w3.heap.size + 1) bs (W5.drewN q) (by omega) u2 u4 (by rw [← HCL.out] at u5; exact u5) u3
    exact h.mono fun e w' ⟨h1, m, h2⟩ => ⟨h1, q + m, by rw [h2, World.drewN_drewN]⟩
  rintro e w6 ⟨rfl, m, rfl⟩
  have hge := HGE.out (1 + (BR : Int)) w.heap.size w3.heap.size (W5.drewN m) (by omega) (by omega) u2 u4
  have HGF := Lib.hid hge
  have z9 : IntKind.i64.wrap (1 + (BR : Int)) = 1 + (BR : Int) := IntWalk.i64_in _ (by omega)
  have HB6 := Lib.hid (HB5.out.drewN m)
  subst hcl
  clear hge HSE HGE HGC HCL
  go_wp2_with fail
  refine HGF.out.mono ?_
  rintro e w7 ⟨rfl, rfl⟩
  go_wp2_with fail
  go_ret
  exact ⟨rfl, HB6.out⟩
theorem up_bound {a b : Int} (h1 : 0 ≤ a) (h2 : 1 ≤ b) : 0 ≤ SL.up a b ∧ SL.up a b ≤ a + b := by
  unfold SL.up
  refine ⟨Int.ediv_nonneg (by omega) (by omega), ?_⟩
  have := Int.ediv_le_self b (show 0 ≤ a + b - 1 by omega)
  omega
theorem winD_bound {t : Tk} {i : Int} (hw : SL.okW t i) : 0 ≤ SL.winD t i ∧ SL.winD t i ≤ 1001000 := by
  obtain ⟨hv, hi1, hi2⟩ := hw
  obtain ⟨v1, v2, v3⟩ := SL.okTk_iff.1 hv
  obtain ⟨m3, m4⟩ := prod_bounds (a := i) (b := t.per) (x := 1000) (y := 1000) (by omega) (by omega) (by omega) (by omega)
  have := up_bound (a := i * t.per) (b := t.cost) m3 v1
  unfold SL.winD
  omega
theorem grp_bound {t : Tk} {i : Int} (hw : SL.okW t i) (hh : SL.heavy t = true) : 0 ≤ SL.grp t i ∧ SL.grp t i ≤ 2001000 := by
  obtain ⟨hv, hi1, hi2⟩ := hw
  obtain ⟨v1, v2, v3⟩ := SL.okTk_iff.1 hv
  have hcp : t.cost < t.per := by unfold SL.heavy at hh; simp at hh; exact hh.1
  have hbr := (bsr_bound (fun n => decide (SL.winD t i ≤ SL.gend t ((n : Int) + 1))) (t.per - t.cost - 1).toNat 0 (t.per - t.cost - 1).toNat (Nat.zero_le _)).2
  unfold SL.grp
  generalize SL.bsr _ _ _ _ = BR at *
  obtain ⟨m3, m4⟩ := prod_bounds (a := 1 + (BR : Int)) (b := t.per) (x := 2000) (y := 1000) (by omega) (by omega) (by omega) (by omega)
  have := up_bound (a := (1 + (BR : Int)) * t.per) (b := t.per - t.cost) m3 (by omega)
  unfold SL.gend
  omega
def cdV (c : Cd) : Array Value := #[.int .i64 (c.num : Int), .string c.tk.name, .int .i64 c.tk.cost, .int .i64 c.tk.per, .int .i64 c.rel, .int .i64 c.idx]
def okC (c : Cd) : Prop := SL.okW c.tk c.idx ∧ 0 ≤ c.rel ∧ c.rel ≤ 1000000
theorem Blk.six {W : World} {g : Nat} {T : TypeId} {a b c d e f : Value} (h : Blk W g T #[a, b, c, d, e, f]) :
    W.cell? ⟨g, 0, none⟩ = some a ∧ W.cell? ⟨g, 1, none⟩ = some b ∧ W.cell? ⟨g, 2, none⟩ = some c ∧ W.cell? ⟨g, 3, none⟩ = some d ∧ W.cell? ⟨g, 4, none⟩ = some e ∧ W.cell? ⟨g, 5, none⟩ = some f :=
  ⟨h.cell 0, h.cell 1, h.cell 2, h.cell 3, h.cell 4, h.cell 5⟩
theorem Blk.three {W : World} {g : Nat} {T : TypeId} {a b c : Value} (h : Blk W g T #[a, b, c]) :
    W.cell? ⟨g, 0, none⟩ = some a ∧ W.cell? ⟨g, 1, none⟩ = some b ∧ W.cell? ⟨g, 2, none⟩ = some c := ⟨h.cell 0, h.cell 1, h.cell 2⟩
theorem Blk.grown {W : World} {g : Nat} {T : TypeId} {cs : Array Value} (h : Blk W g T cs) (n : Nat) (os : Array Obj) : Blk (grow (W.drewN n) os) g T cs := by
  have hl : g < W.heap.size := h.lt
  unfold Blk at *
  show (W.heap ++ os)[g]? = _
  rw [Array.getElem?_append_left hl, h]
theorem gr_grown {a b : World} (h : Gr a b) (n : Nat) (os : Array Obj) : Gr a (grow (b.drewN n) os) := by
  refine ⟨⟨h.1.os, h.1.tape, h.1.output, ?_, fun k hk => ?_⟩, Nat.le_trans h.2 (Nat.le_add_right _ _)⟩
  · show a.heap.size ≤ (b.heap ++ os).size
    rw [Array.size_append]
    have := h.1.size
    omega
  · show (b.heap ++ os)[k]? = _
    have := h.1.size
    rw [Array.getElem?_append_left (by omega)]
    exact h.1.block k hk
theorem Calls.gr {f : FuncId} {args : Array Value} {W : World} {v : Value} (h : Calls Tryz.prog f args W fun e w' => e = .returned v ∧ Gr W w') :
    Calls Tryz.prog f args W fun e w' => e = .returned v ∧ ∃ q os', w' = grow (W.drewN q) os' := h.mono fun _ _ ⟨he, hg⟩ => ⟨he, hg.grow⟩
theorem ends_any (c : Cd) (w : World) (hc : okC c) : Calls Tryz.prog 97 #[.agg (cdV c)] w fun e w' => e = .returned (.int .i64 (SL.ends c)) ∧ Gr w w' := by
  obtain ⟨hw, h1, h2⟩ := hc
  have hv := hw.1
  have HB1 := Lib.hid ((Gr.refl w).alloc (.cells #[.int .i64 (c.num : Int), .string c.tk.name, .int .i64 c.tk.cost, .int .i64 c.tk.per, .int .i64 c.rel, .int .i64 c.idx] 132))
  have hk0 : Blk (w.alloc (.cells #[.int .i64 (c.num : Int), .string c.tk.name, .int .i64 c.tk.cost, .int .i64 c.tk.per, .int .i64 c.rel, .int .i64 c.idx] 132)) w.heap.size 132 (cdV c) := Blk.new w 132 (cdV c)
  have HK0 := Lib.hid hk0
  obtain ⟨x0, x1, x2, x3, x4, x5⟩ := hk0.six
  have HH := Lib.hid (fun W => (show Calls Tryz.prog 111 #[.agg #[.string c.tk.name, .int .i64 c.tk.cost, .int .i64 c.tk.per]] W fun e w' => e = .returned (.bool (SL.heavy c.tk)) ∧ Gr W w' from heavy_any c.tk W hv))
  have hR : SL.ends c = if SL.heavy c.tk then c.rel + SL.grp c.tk c.idx else 0 := rfl
  rw [hR]
  rw [show cdV c = #[.int .i64 (c.num : Int), .string c.tk.name, .int .i64 c.tk.cost, .int .i64 c.tk.per, .int .i64 c.rel, .int .i64 c.idx] from rfl]
  cases hh : SL.heavy c.tk with
  | false =>
    rw [hh] at HH
    clear hk0 hR hh hv hw HK0
    rw [if_neg (by simp)]
    go_enter Tryz.func97, Tryz.ntmps97
    go_wp2_with fail
    refine (HH.out _).mono ?_
    rintro e w2 ⟨rfl, hb⟩
    have HB2 := Lib.hid (HB1.out.trans hb)
    clear hb
    go_wp2_with fail
    go_ret
    exact ⟨rfl, HB2.out⟩
  | true =>
    rw [hh] at HH
    obtain ⟨g1, g2⟩ := grp_bound hw hh
    have HG := Lib.hid (fun W => (show Calls Tryz.prog 112 #[.agg #[.string c.tk.name, .int .i64 c.tk.cost, .int .i64 c.tk.per], .int .i64 c.idx] W fun e w' => e = .returned (.int .i64 (SL.grp c.tk c.idx)) ∧ Gr W w' from group_any c.tk c.idx W hw hh))
    clear hk0 hR hh hv hw
    rw [if_pos rfl]
    generalize SL.grp c.tk c.idx = G at *
    have z1 : IntKind.i64.wrap (c.rel + G) = c.rel + G := IntWalk.i64_in _ (by omega)
    go_enter Tryz.func97, Tryz.ntmps97
    go_wp2_with fail
    refine (HH.out _).mono ?_
    rintro e w2 ⟨rfl, hb⟩
    have HB2 := Lib.hid (HB1.out.trans hb)
    have hk2 := HK0.out.below hb.1
    clear hb x0 x1 x2 x3 x4 x5 HB1 HK0
    have x1 := fun n os => (hk2.grown n os).six.2.1
    have x2 := fun n os => (hk2.grown n os).six.2.2.1
    have x3 := fun n os => (hk2.grown n os).six.2.2.2.1
    have x4 := fun n os => (hk2.grown n os).six.2.2.2.2.1
    have x5 := fun n os => (hk2.grown n os).six.2.2.2.2.2
    clear hk2
    have mixed : Tryz.prog.follows .mixedOrders = true := by kernel_rfl
    go_wp2_with fail
    go_quiet_grown (first | (go_at_call 112; exact Calls.grown_of (Calls.gr (HG.out _))))
    go_wp2_with fail
    go_ret
    exact ⟨rfl, gr_grown HB2.out _ _⟩
theorem before_any (a b : Cd) (w : World) (ha : okC a) (hb : okC b) : Calls Tryz.prog 82 #[.agg (cdV a), .agg (cdV b)] w fun e w' => e = .returned (.bool (SL.bef a b)) ∧ Gr w w' := by
  have mixed : Tryz.prog.follows .mixedOrders = true := by kernel_rfl
  have HB1 := Lib.hid (((Gr.refl w).alloc (.cells #[.int .i64 (a.num : Int), .string a.tk.name, .int .i64 a.tk.cost, .int .i64 a.tk.per, .int .i64 a.rel, .int .i64 a.idx] 132)).alloc (.cells #[.int .i64 (b.num : Int), .string b.tk.name, .int .i64 b.tk.cost, .int .i64 b.tk.per, .int .i64 b.rel, .int .i64 b.idx] 132))
  have hka : Blk ((w.alloc (.cells #[.int .i64 (a.num : Int), .string a.tk.name, .int .i64 a.tk.cost, .int .i64 a.tk.per, .int .i64 a.rel, .int .i64 a.idx] 132)).alloc (.cells #[.int .i64 (b.num : Int), .string b.tk.name, .int .i64 b.tk.cost, .int .i64 b.tk.per, .int .i64 b.rel, .int .i64 b.idx] 132)) w.heap.size 132 (cdV a) := (Blk.new w 132 (cdV a)).alloc _
  have hkb : Blk ((w.alloc (.cells #[.int .i64 (a.num : Int), .string a.tk.name, .int .i64 a.tk.cost, .int .i64 a.tk.per, .int .i64 a.rel, .int .i64 a.idx] 132)).alloc (.cells #[.int .i64 (b.num : Int), .string b.tk.name, .int .i64 b.tk.cost, .int .i64 b.tk.per, .int .i64 b.rel, .int .i64 b.idx] 132)) (w.heap.size + 1) 132 (cdV b) := blk_second w _ _ _ _
  have HKA := Lib.hid hka
  have HKB := Lib.hid hkb
  obtain ⟨x0, x1, x2, x3, x4, x5⟩ := hka.six
  obtain ⟨y0, y1, y2, y3, y4, y5⟩ := hkb.six
  have HWA := Lib.hid (fun W => (show Calls Tryz.prog 79 #[.agg #[.string a.tk.name, .int .i64 a.tk.cost, .int .i64 a.tk.per], .int .i64 a.idx] W fun e w' => e = .returned (.tuple #[.agg #[.int .i64 a.idx, .int .i64 (SL.winR a.tk a.idx), .int .i64 (SL.winD a.tk a.idx)], .int .i64 0]) ∧ Gr W w' from window_any a.tk a.idx W ha.1))
  have HWB := Lib.hid (fun W => (show Calls Tryz.prog 79 #[.agg #[.string b.tk.name, .int .i64 b.tk.cost, .int .i64 b.tk.per], .int .i64 b.idx] W fun e w' => e = .returned (.tuple #[.agg #[.int .i64 b.idx, .int .i64 (SL.winR b.tk b.idx), .int .i64 (SL.winD b.tk b.idx)], .int .i64 0]) ∧ Gr W w' from window_any b.tk b.idx W hb.1))
  have HOA := Lib.hid (fun W => (show Calls Tryz.prog 96 #[.agg #[.string a.tk.name, .int .i64 a.tk.cost, .int .i64 a.tk.per], .int .i64 a.idx] W fun e w' => e = .returned (.bool (SL.over a.tk a.idx)) ∧ Gr W w' from overlaps_any a.tk a.idx W ha.1))
  have HOB := Lib.hid (fun W => (show Calls Tryz.prog 96 #[.agg #[.string b.tk.name, .int .i64 b.tk.cost, .int .i64 b.tk.per], .int .i64 b.idx] W fun e w' => e = .returned (.bool (SL.over b.tk b.idx)) ∧ Gr W w' from overlaps_any b.tk b.idx W hb.1))
  have HEA := Lib.hid (fun W => (show Calls Tryz.prog 97 #[.agg #[.int .i64 (a.num : Int), .string a.tk.name, .int .i64 a.tk.cost, .int .i64 a.tk.per, .int .i64 a.rel, .int .i64 a.idx]] W fun e w' => e = .returned (.int .i64 (SL.ends a)) ∧ Gr W w' from ends_any a W ha))
  have HEB := Lib.hid (fun W => (show Calls Tryz.prog 97 #[.agg #[.int .i64 (b.num : Int), .string b.tk.name, .int .i64 b.tk.cost, .int .i64 b.tk.per, .int .i64 b.rel, .int .i64 b.idx]] W fun e w' => e = .returned (.int .i64 (SL.ends b)) ∧ Gr W w' from ends_any b W hb))
  have ba := winD_bound ha.1
  have bb := winD_bound hb.1
  have z1 : IntKind.i64.wrap (a.rel + SL.winD a.tk a.idx) = a.rel + SL.winD a.tk a.idx := IntWalk.i64_in _ (by have := ha.2; omega)
  have z2 : IntKind.i64.wrap (b.rel + SL.winD b.tk b.idx) = b.rel + SL.winD b.tk b.idx := IntWalk.i64_in _ (by have := hb.2; omega)
  have hR : SL.bef a b = SL.befK (a.rel + SL.winD a.tk a.idx) (b.rel + SL.winD b.tk b.idx) (SL.over a.tk a.idx) (SL.over b.tk b.idx) (SL.ends a) (SL.ends b) a.num b.num := rfl
  rw [hR, show cdV a = #[.int .i64 (a.num : Int), .string a.tk.name, .int .i64 a.tk.cost, .int .i64 a.tk.per, .int .i64 a.rel, .int .i64 a.idx] from rfl, show cdV b = #[.int .i64 (b.num : Int), .string b.tk.name, .int .i64 b.tk.cost, .int .i64 b.tk.per, .int .i64 b.rel, .int .i64 b.idx] from rfl]
  generalize SL.winR a.tk a.idx = ra at *
  generalize SL.winR b.tk b.idx = rb at *
  generalize SL.winD a.tk a.idx = da at *
  generalize SL.winD b.tk b.idx = db at *
  generalize SL.over a.tk a.idx = oa at *
  generalize SL.over b.tk b.idx = ob at *
  generalize SL.ends a = ea at *
  generalize SL.ends b = eb at *
  generalize hbk : SL.befK (a.rel + da) (b.rel + db) oa ob ea eb a.num b.num = R at *
  have HR := Lib.hid hbk
  clear hka hkb hR ha hb ba bb hbk
  go_enter Tryz.func82, Tryz.ntmps82
  go_wp2_with fail
  refine (HWA.out _).mono ?_
  rintro e w2 ⟨rfl, hb⟩
  have hb1 := HB1.out.trans hb
  have ha2 := HKA.out.below hb.1
  have hb2 := HKB.out.below hb.1
  clear x0 x1 x2 x3 x4 x5 y0 y1 y2 y3 y4 y5 HB1 HKA HKB hb
  have hsa := Blk.new w2 128 #[.int .i64 a.idx, .int .i64 ra, .int .i64 da]
  have HB1 := Lib.hid (hb1.alloc (.cells #[.int .i64 a.idx, .int .i64 ra, .int .i64 da] 128))
  have HKA := Lib.hid (ha2.alloc (.cells #[.int .i64 a.idx, .int .i64 ra, .int .i64 da] 128))
  have HKB := Lib.hid (hb2.alloc (.cells #[.int .i64 a.idx, .int .i64 ra, .int .i64 da] 128))
  have HSA := Lib.hid hsa
  obtain ⟨y0, y1, y2, y3, y4, y5⟩ := HKB.out.six
  clear hb1 ha2 hb2 hsa
  go_wp2_with fail
  refine (HWB.out _).mono ?_
  rintro e w4 ⟨rfl, hb⟩
  generalize w2.heap.size = sa at *
  have hb1 := HB1.out.trans hb
  have ha2 := HKA.out.below hb.1
  have hb2 := HKB.out.below hb.1
  have hsa := HSA.out.below hb.1
  clear y0 y1 y2 y3 y4 y5 HB1 HKA HKB HSA hb HWA HWB
  have HB1 := Lib.hid (hb1.alloc (.cells #[.int .i64 b.idx, .int .i64 rb, .int .i64 db] 128))
  have HKA := Lib.hid (ha2.alloc (.cells #[.int .i64 b.idx, .int .i64 rb, .int .i64 db] 128))
  have HKB := Lib.hid (hb2.alloc (.cells #[.int .i64 b.idx, .int .i64 rb, .int .i64 db] 128))
  have HSA := Lib.hid (hsa.alloc (.cells #[.int .i64 b.idx, .int .i64 rb, .int .i64 db] 128))
  have HSB := Lib.hid (Blk.new w4 128 #[.int .i64 b.idx, .int .i64 rb, .int .i64 db])
  clear hb1 ha2 hb2 hsa
  go_wp2_with fail
  generalize hw5 : w4.alloc (.cells #[.int .i64 b.idx, .int .i64 rb, .int .i64 db] 128) = w5 at *
  generalize w4.heap.size = sb at *
  clear hw5
  have x4 := HKA.out.six.2.2.2.2.1
  have y4 := HKB.out.six.2.2.2.2.1
  have s2 := HSA.out.three.2.2
  have t2 := HSB.out.three.2.2
  go_quiet (fail)
  clear z1 z2 x4 y4 s2 t2 HSA HSB
  generalize a.rel + da = A at *
  generalize b.rel + db = B at *
  have HB6 := Lib.hid (HB1.out.drewN nq)
  have HKA6 := Lib.hid (HKA.out.drewN nq)
  have HKB6 := Lib.hid (HKB.out.drewN nq)
  clear HB1 HKA HKB
  generalize w5.drewN nq = w6 at *
  by_cases h1 : A = B
  · subst h1
    have e1 : (A != A) = false := by simp
    go_wp2_with fail
    have x0 := fun n os => (HKA6.out.grown n os).six.1
    have x1 := fun n os => (HKA6.out.grown n os).six.2.1
    have x2 := fun n os => (HKA6.out.grown n os).six.2.2.1
    have x3 := fun n os => (HKA6.out.grown n os).six.2.2.2.1
    have x4 := fun n os => (HKA6.out.grown n os).six.2.2.2.2.1
    have x5 := fun n os => (HKA6.out.grown n os).six.2.2.2.2.2
    have y0 := fun n os => (HKB6.out.grown n os).six.1
    have y1 := fun n os => (HKB6.out.grown n os).six.2.1
    have y2 := fun n os => (HKB6.out.grown n os).six.2.2.1
    have y3 := fun n os => (HKB6.out.grown n os).six.2.2.2.1
    have y4 := fun n os => (HKB6.out.grown n os).six.2.2.2.2.1
    have y5 := fun n os => (HKB6.out.grown n os).six.2.2.2.2.2
    go_quiet_grown (first | (go_at_call 96; first | (with_reducible exact Calls.grown_of (Calls.gr (HOA.out _))) | (with_reducible exact Calls.grown_of (Calls.gr (HOB.out _)))))
    clear x0 x1 x2 x3 x4 x5 y0 y1 y2 y3 y4 y5
    have HB7 := Lib.hid (gr_grown HB6.out nq osq)
    have HKA7 := Lib.hid (HKA6.out.grown nq osq)
    have HKB7 := Lib.hid (HKB6.out.grown nq osq)
    clear HB6 HKA6 HKB6 HOA HOB
    generalize grow (w6.drewN nq) osq = w7 at *
    cases oa with
    | false =>
      cases ob with
      | true =>
        go_wp2_with fail
        go_ret
        refine ⟨?_, HB7.out⟩
        rw [← HR.out]; simp [SL.befK]
      | false =>
        have x0 := HKA7.out.six.1
        have y0 := HKB7.out.six.1
        go_wp2_with fail
        go_ret
        refine ⟨?_, HB7.out⟩
        rw [← HR.out]; simp [SL.befK]
    | true =>
      cases ob with
      | false =>
        go_wp2_with fail
        go_ret
        refine ⟨?_, HB7.out⟩
        rw [← HR.out]; simp [SL.befK]
      | true =>
        have x0 := fun n os => (HKA7.out.grown n os).six.1
        have x1 := fun n os => (HKA7.out.grown n os).six.2.1
        have x2 := fun n os => (HKA7.out.grown n os).six.2.2.1
        have x3 := fun n os => (HKA7.out.grown n os).six.2.2.2.1
        have x4 := fun n os => (HKA7.out.grown n os).six.2.2.2.2.1
        have x5 := fun n os => (HKA7.out.grown n os).six.2.2.2.2.2
        have y0 := fun n os => (HKB7.out.grown n os).six.1
        have y1 := fun n os => (HKB7.out.grown n os).six.2.1
        have y2 := fun n os => (HKB7.out.grown n os).six.2.2.1
        have y3 := fun n os => (HKB7.out.grown n os).six.2.2.2.1
        have y4 := fun n os => (HKB7.out.grown n os).six.2.2.2.2.1
        have y5 := fun n os => (HKB7.out.grown n os).six.2.2.2.2.2
        go_wp2_with fail
        go_quiet_grown (first | (go_at_call 97; first | (with_reducible exact Calls.grown_of (Calls.gr (HEA.out _))) | (with_reducible exact Calls.grown_of (Calls.gr (HEB.out _)))))
        clear x0 x1 x2 x3 x4 x5 y0 y1 y2 y3 y4 y5
        have HB8 := Lib.hid (gr_grown HB7.out nq osq)
        have x0 := (HKA7.out.grown nq osq).six.1
        have y0 := (HKB7.out.grown nq osq).six.1
        clear HB7 HKA7 HKB7 HEA HEB
        generalize grow (w7.drewN nq) osq = w8 at *
        by_cases h2 : ea = eb
        · subst h2
          have e2 : (ea != ea) = false := by simp
          go_wp2_with fail
          go_ret
          refine ⟨?_, HB8.out⟩
          rw [← HR.out]; simp [SL.befK]
        · have e2 : (ea != eb) = true := by simp [h2]
          have H2 := Lib.hid h2
          clear h2
          go_wp2_with fail
          go_ret
          refine ⟨?_, HB8.out⟩
          rw [← HR.out]; simp [SL.befK, H2.out]
  · have e1 : (A != B) = true := by simp [h1]
    have H1 := Lib.hid h1
    clear h1
    go_wp2_with fail
    go_ret
    refine ⟨?_, HB6.out⟩
    rw [← HR.out]; simp [SL.befK, H1.out]
end
end Go.Proofs.YtpmbhdheeaejgaaGreatDoor
