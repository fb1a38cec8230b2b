/- The contracts of the reader's place and unary, from that of its expr. -/
import Derived.Test.YtglaecalbamnkaaGreatDoorRdI
namespace Go.Proofs.YtglaecalbamnkaaGreatDoor
open Go.RowKit Go.Maps
open PP (Tree)
section
variable {b : Nat} {Y : RLoc} {E : PP.Env} {σ : PP.St}
/-- What is read alike: the parser's plain function F at some fuel, its tree where no error is left. -/
def Alike (F : Nat → Option (PP.St × Tree)) (σ' : PP.St) (t : Tree) : Prop := ∃ n t', F n = some (σ', t') ∧ (σ'.err = 0 → t = t')
def ExprOk (b : Nat) (Y : RLoc) (E : PP.Env) (σ : PP.St) : Prop := ∀ (W : World) (lvl l : Nat), PP.Lev lvl l → l ≤ 12 → RS W b Y E σ →
  Calls Tryz.prog 95 #[.pointer (some ⟨b, 0, none⟩), .int .i64 (l : Int)] W (RTreeEnd b Y E W (Alike fun n => PP.binary E n lvl σ))
def UnaryOk (b : Nat) (Y : RLoc) (E : PP.Env) (σ : PP.St) : Prop := ∀ (W : World), RS W b Y E σ →
  Calls Tryz.prog 103 #[.pointer (some ⟨b, 0, none⟩)] W (RTreeEnd b Y E W (Alike fun n => PP.unary E n σ))
def PlaceOk (b : Nat) (Y : RLoc) (E : PP.Env) (σ : PP.St) : Prop := ∀ (W : World), RS W b Y E σ →
  Calls Tryz.prog 97 #[.pointer (some ⟨b, 0, none⟩)] W (RTreeEnd b Y E W (Alike fun n => PP.place E n σ))
theorem more_of_sees {s : List UInt8} (h : PP.sees E σ s = true) : PP.more E σ = true := by
  unfold PP.sees at h
  simp only [Bool.and_eq_true] at h
  exact h.1
theorem err_of_le {σ' : PP.St} (h : PP.Le σ σ') (he : σ'.err = 0) : σ.err = 0 := by
  apply Classical.byContradiction
  intro hn
  have := h.2 hn
  rw [this] at he
  exact hn he
set_option maxHeartbeats 1000000
set_option maxRecDepth 100000
theorem rplace_of (HE : ∀ σ', σ.next < σ'.next → σ'.next ≤ E.ts.length → ExprOk b Y E σ') : PlaceOk b Y E σ := by
  intro w h
  have hfd := field_tok
  have I0 := (RInv.start (Z := NoZ) h (fun h => h)).alloc #[.int .u8 0, .int .i64 0, .string ⟨#[]⟩, .slice none 0 0] 36 rfl
  have HN := Lib.hid (rname_inv I0)
  have hpl := next_nameP E σ
  have HHE := Lib.hid HE
  clear I0 h HE
  generalize hnm : PP.nameP E σ = q at *
  obtain ⟨σ1, nm⟩ := q
  have HNM := Lib.hid hnm
  clear hnm
  simp only [] at HN hpl
  go_enter Tryz.func97, Tryz.ntmps97
  go_wp2_with fail
  refine HN.out.mono ?_
  rintro e w1 ⟨rfl, I1⟩
  have hsee := rsee_inv I1
  unfold seenV at hsee
  have hst := seen_text E σ1 (s := [91]) (by decide)
  have hlen := I1.ps.len
  generalize (seen E σ1).2.1 = tx at *
  generalize ((seen E σ1).1 : Int) = kd at *
  generalize ((seen E σ1).2.2 : Int) = ps at *
  have HS := Lib.hid hsee
  clear I1 HN hsee
  cases hse : PP.sees E σ1 [91] with
  | false =>
    rw [hse] at hst
    have hfin : PP.place E 1 σ = some (σ1, .node 2 0 nm []) := by rw [PP.place, HNM.out]; simp only [hse]; rfl
    have HFIN := Lib.hid hfin
    clear hse hfin HHE
    go_wp2_with fail
    refine HS.out.mono ?_
    rintro e w2 ⟨rfl, I2⟩
    obtain ⟨⟨r0, r1, r2, r3⟩, q0, q1, q2, q3⟩ := I2.b0.four
    have HQ := Lib.hid (fun v0 v1 v2 v3 => I2.st0 v0 v1 v2 v3)
    clear I2
    go_wp2_with fail
    refine bodyPost_ret (node_result rfl rfl (HQ.out _ _ _ _).b0) rfl ?_
    exact (HQ.out _ _ _ _).done0 (k := 2) (num := 0) (nm := nm) ⟨1, _, HFIN.out, fun _ => rfl⟩
  | true =>
    rw [hse] at hst
    have hmo := more_of_sees hse
    have hfin : ∀ n r, PP.binary E n 0 (PP.adv σ1) = some r → PP.place E (n + 1) σ = some (PP.require E r.1 [93], .node 3 0 nm [r.2]) := by
      intro n r hr
      rw [PP.place, HNM.out]
      simp only [hse, if_true, hr]
      rfl
    have HFIN := Lib.hid hfin
    have HMO := Lib.hid hmo
    clear hse hfin hmo
    go_wp2_with fail
    refine HS.out.mono ?_
    rintro e w2 ⟨rfl, I2⟩
    have HSK := Lib.hid (rskip_inv HMO.out I2)
    clear I2 HS
    go_wp2_with fail
    refine HSK.out.mono ?_
    rintro e w3 ⟨rfl, I3⟩
    have HEX := Lib.hid (rtree_inv I3 (HHE.out (PP.adv σ1) (by simp only [PP.adv]; omega) (by have := (PP.more_err E HMO.out).2; simp only [PP.adv]; omega) w3 0 1 PP.lev_start (by omega) I3.ps))
    clear I3 HSK
    go_wp2_with fail
    refine HEX.out.mono ?_
    rintro e w4 ⟨k, num, nm4, A, c, kids, σ4, rfl, I4, n4, t4, hr4, ht4⟩
    have I5 := (I4.kids1 (k := k) (num := num) (nm := nm4) (c := c) (A := A) (kids := kids) (by simp) rfl).alloc #[.int .u8 3, .int .i64 0, .string ⟨nm.toArray⟩, .slice (some ⟨w4.heap.size, 0, none⟩) 1 1] 36 (n := w4.heap.size + 1) (by simp)
    have HW := Lib.hid (rwant_inv ⟨#[93]⟩ (by decide) I5)
    have HR4 := Lib.hid (HFIN.out n4 _ hr4)
    have HT4 := Lib.hid ht4
    clear I4 I5 HEX hr4 ht4
    go_wp2_with fail
    refine HW.out.mono ?_
    rintro e w6 ⟨rfl, I6⟩
    obtain ⟨⟨n0, n1, n2, n3⟩, _, _, _, _⟩ := I6.b0.four
    obtain ⟨⟨r0, r1, r2, r3⟩, q0, q1, q2, q3⟩ := I6.b1.four
    have HQ := Lib.hid (fun v0 v1 v2 v3 => I6.st1 v0 v1 v2 v3)
    clear I6 HW
    go_wp2_with fail
    refine bodyPost_ret (node_result rfl rfl (HQ.out _ _ _ _).b1) rfl ?_
    exact (HQ.out _ _ _ _).done (k := 3) (num := 0) (nm := nm) (c := 1) (A := some ⟨w4.heap.size, 0, none⟩) (kids := [.node k num nm4 kids]) (by simp) ⟨_, _, HR4.out, fun he => by
      rw [HT4.out (err_of_le (PP.le_require E σ4 [93]) he)]⟩
theorem runary_of (HE : ∀ σ', σ.next < σ'.next → σ'.next ≤ E.ts.length → ExprOk b Y E σ') (HU : ∀ σ', σ.next < σ'.next → σ'.next ≤ E.ts.length → UnaryOk b Y E σ') : UnaryOk b Y E σ := by
  intro w h
  have hfd := field_tok
  have I0 := (RInv.start (Z := NoZ) h (fun h => h)).alloc #[.int .u8 0, .int .i64 0, .string ⟨#[]⟩, .slice none 0 0] 36 rfl
  have hsee := rsee_inv I0
  unfold seenV at hsee
  have h45 := seen_text E σ (s := [45]) (by decide)
  have h33 := seen_text E σ (s := [33]) (by decide)
  have h40 := seen_text E σ (s := [40]) (by decide)
  have hkd := seen_kind E σ
  have hsv : PP.sees E σ [45] = true → PP.sees E σ [33] = false := fun h => by
    unfold PP.sees at h ⊢
    simp only [Bool.and_eq_true, beq_iff_eq] at h
    rw [h.2]; simp
  have hPL := rplace_of HE w
  have HPL := Lib.hid (rplace_of HE)
  have HHE := Lib.hid HE
  have HHU := Lib.hid HU
  generalize (seen E σ).2.1 = tx at *
  generalize hkk : (seen E σ).1 = kk at *
  generalize hkd' : ((kk : Nat) : Int) = kd at *
  generalize ((seen E σ).2.2 : Int) = ps at *
  have HS := Lib.hid hsee
  have HKD := Lib.hid hkd'
  clear I0 h HE HU hsee hPL hkk hkd'
  cases c1 : PP.sees E σ [45] with
  | true =>
    rw [c1] at h45
    have c2 := hsv c1
    rw [c2] at h33
    clear h40 hkd hsv HPL
    have hfin : ∀ n r, PP.unary E n (PP.adv σ) = some r → PP.unary E (n + 1) σ = some (r.1, .node 4 0 [] [r.2]) := by
      intro n r hr
      rw [PP.unary]
      simp only [c1, hr, if_true]
      rfl
    have HFIN := Lib.hid hfin
    have HMO := Lib.hid (more_of_sees c1)
    clear hfin HHE
    go_enter Tryz.func103, Tryz.ntmps103
    go_wp2_with fail
    refine HS.out.mono ?_
    rintro e w1 ⟨rfl, I1⟩
    have I2 := I1.alloc #[.int .u8 kd, .string ⟨tx.toArray⟩, .int .i64 ps] 58 rfl
    have z0 := I2.b0.cell 0
    have z1 := I2.b0.cell 1
    simp only [List.getElem?_toArray, List.getElem?_cons_zero, List.getElem?_cons_succ] at z0 z1
    have HSK := Lib.hid (rskip_inv HMO.out I2)
    have HZ := Lib.hid I2
    clear I1 I2 HS
    go_wp2_with fail
    refine HSK.out.mono ?_
    rintro e w3 ⟨rfl, I3⟩
    clear z0 z1
    have z0 := I3.b0.cell 0
    have z1 := I3.b0.cell 1
    simp only [List.getElem?_toArray, List.getElem?_cons_zero, List.getElem?_cons_succ] at z0 z1
    have HUX := Lib.hid (rtree_inv I3 (HHU.out (PP.adv σ) (by simp only [PP.adv]; omega) (by have := (PP.more_err E HMO.out).2; simp only [PP.adv]; omega) w3 I3.ps))
    have HI3 := Lib.hid I3
    clear I3 HSK HZ
    go_wp2_with fail
    refine HUX.out.mono ?_
    rintro e w4 ⟨k, num, nm4, A, c, kids, σ4, rfl, I4, n4, t4, hr4, ht4⟩
    have I5 := I4.kids1 (k := k) (num := num) (nm := nm4) (c := c) (A := A) (kids := kids) (by simp) rfl
    obtain ⟨⟨r0, r1, r2, r3⟩, q0, q1, q2, q3⟩ := I5.b1.four
    have HQ := Lib.hid (fun v0 v1 v2 v3 => I5.st1 v0 v1 v2 v3)
    have HR4 := Lib.hid (HFIN.out n4 _ hr4)
    have HT4 := Lib.hid ht4
    clear I4 I5 HUX hr4 ht4 z0 z1 HI3
    go_wp2_with fail
    refine bodyPost_ret (node_result rfl rfl (HQ.out _ _ _ _).b1) rfl ?_
    exact (HQ.out _ _ _ _).done (k := 4) (num := 0) (nm := []) (c := 1) (A := some ⟨w4.heap.size, 0, none⟩) (kids := [.node k num nm4 kids]) (by simp) ⟨_, _, HR4.out, fun he => by rw [HT4.out he]⟩
  | false =>
  cases c2 : PP.sees E σ [33] with
  | true =>
    rw [c1] at h45
    rw [c2] at h33
    clear h40 hkd hsv HPL
    have hfin : ∀ n r, PP.unary E n (PP.adv σ) = some r → PP.unary E (n + 1) σ = some (r.1, .node 5 0 [] [r.2]) := by
      intro n r hr
      rw [PP.unary]
      simp only [c1, c2, hr, if_true, if_false, Bool.false_eq_true]
      rfl
    have HFIN := Lib.hid hfin
    have HMO := Lib.hid (more_of_sees c2)
    clear hfin HHE
    go_enter Tryz.func103, Tryz.ntmps103
    go_wp2_with fail
    refine HS.out.mono ?_
    rintro e w1 ⟨rfl, I1⟩
    have I2 := I1.alloc #[.int .u8 kd, .string ⟨tx.toArray⟩, .int .i64 ps] 58 rfl
    have z0 := I2.b0.cell 0
    have z1 := I2.b0.cell 1
    simp only [List.getElem?_toArray, List.getElem?_cons_zero, List.getElem?_cons_succ] at z0 z1
    have HSK := Lib.hid (rskip_inv HMO.out I2)
    have HZ := Lib.hid I2
    clear I1 I2 HS
    go_wp2_with fail
    refine HSK.out.mono ?_
    rintro e w3 ⟨rfl, I3⟩
    clear z0 z1
    have z0 := I3.b0.cell 0
    have z1 := I3.b0.cell 1
    simp only [List.getElem?_toArray, List.getElem?_cons_zero, List.getElem?_cons_succ] at z0 z1
    have HUX := Lib.hid (rtree_inv I3 (HHU.out (PP.adv σ) (by simp only [PP.adv]; omega) (by have := (PP.more_err E HMO.out).2; simp only [PP.adv]; omega) w3 I3.ps))
    have HI3 := Lib.hid I3
    clear I3 HSK HZ
    go_wp2_with fail
    refine HUX.out.mono ?_
    rintro e w4 ⟨k, num, nm4, A, c, kids, σ4, rfl, I4, n4, t4, hr4, ht4⟩
    have I5 := I4.kids1 (k := k) (num := num) (nm := nm4) (c := c) (A := A) (kids := kids) (by simp) rfl
    obtain ⟨⟨r0, r1, r2, r3⟩, q0, q1, q2, q3⟩ := I5.b1.four
    have HQ := Lib.hid (fun v0 v1 v2 v3 => I5.st1 v0 v1 v2 v3)
    have HR4 := Lib.hid (HFIN.out n4 _ hr4)
    have HT4 := Lib.hid ht4
    clear I4 I5 HUX hr4 ht4 z0 z1 HI3
    go_wp2_with fail
    refine bodyPost_ret (node_result rfl rfl (HQ.out _ _ _ _).b1) rfl ?_
    exact (HQ.out _ _ _ _).done (k := 5) (num := 0) (nm := []) (c := 1) (A := some ⟨w4.heap.size, 0, none⟩) (kids := [.node k num nm4 kids]) (by simp) ⟨_, _, HR4.out, fun he => by rw [HT4.out he]⟩
  | false =>
  rw [c1] at h45
  rw [c2] at h33
  cases c3 : PP.sees E σ [40] with
  | true =>
    rw [c3] at h40
    have hfin : ∀ n r, PP.binary E n 0 (PP.adv σ) = some r → PP.unary E (n + 2) σ = some (PP.require E r.1 [41], r.2) := by
      intro n r hr
      rw [PP.unary]
      simp only [c1, c2, if_false, Bool.false_eq_true]
      rw [PP.primary]
      simp only [c3, if_true, hr]
      rfl
    have HFIN := Lib.hid hfin
    have HMO := Lib.hid (more_of_sees c3)
    clear hfin HHU hkd hsv HPL
    go_enter Tryz.func103, Tryz.ntmps103
    go_wp2_with fail
    refine HS.out.mono ?_
    rintro e w1 ⟨rfl, I1⟩
    have I2 := I1.alloc #[.int .u8 kd, .string ⟨tx.toArray⟩, .int .i64 ps] 58 rfl
    have z0 := I2.b0.cell 0
    have z1 := I2.b0.cell 1
    simp only [List.getElem?_toArray, List.getElem?_cons_zero, List.getElem?_cons_succ] at z0 z1
    have HSK := Lib.hid (rskip_inv HMO.out I2)
    clear I1 I2 HS
    go_wp2_with fail
    refine HSK.out.mono ?_
    rintro e w3 ⟨rfl, I3⟩
    have HEX := Lib.hid (rtree_inv I3 (HHE.out (PP.adv σ) (by simp only [PP.adv]; omega) (by have := (PP.more_err E HMO.out).2; simp only [PP.adv]; omega) w3 0 1 PP.lev_start (by omega) I3.ps))
    clear I3 HSK z0 z1
    go_wp2_with fail
    refine HEX.out.mono ?_
    rintro e w4 ⟨k, num, nm4, A, c, kids, σ4, rfl, I4, n4, t4, hr4, ht4⟩
    have I5 := I4.alloc #[.int .u8 (k : Int), .int .i64 num, .string ⟨nm4.toArray⟩, .slice A kids.length c] 36 rfl
    have HW := Lib.hid (rwant_inv ⟨#[41]⟩ (by decide) I5)
    have HR4 := Lib.hid (HFIN.out n4 _ hr4)
    have HT4 := Lib.hid ht4
    clear I4 I5 HEX hr4 ht4
    go_wp2_with fail
    refine HW.out.mono ?_
    rintro e w6 ⟨rfl, I6⟩
    obtain ⟨⟨n0, n1, n2, n3⟩, _, _, _, _⟩ := I6.b0.four
    obtain ⟨⟨r0, r1, r2, r3⟩, q0, q1, q2, q3⟩ := I6.b2.four
    have HQ := Lib.hid (fun v0 v1 v2 v3 => I6.st2 v0 v1 v2 v3)
    clear I6 HW
    go_wp2_with fail
    refine bodyPost_ret (node_result rfl rfl (HQ.out _ _ _ _).b2) rfl ?_
    exact (HQ.out _ _ _ _).done (k := k) (num := num) (nm := nm4) (c := c) (A := A) (kids := kids) (by simp) ⟨_, _, HR4.out, fun he => HT4.out (err_of_le (PP.le_require E σ4 [41]) he)⟩
  | false =>
  rw [c3] at h40
  cases c4 : (PP.more E σ && decide ((PP.cur E σ).kind = 2)) with
  | true =>
    rw [c4] at hkd
    have hfin : PP.unary E 2 σ = some ((PP.numP E σ 0 2147483647).1, .node 1 (PP.numP E σ 0 2147483647).2 [] []) := by
      rw [PP.unary]
      simp only [c1, c2, if_false, Bool.false_eq_true]
      rw [PP.primary]
      simp only [c3, c4, if_true, if_false, Bool.false_eq_true]
    have e2 : (kd == 2) = true := by rw [← HKD.out]; simp at hkd ⊢; omega
    have HFIN := Lib.hid hfin
    clear hfin HHU HHE hkd hsv HPL c4
    go_enter Tryz.func103, Tryz.ntmps103
    go_wp2_with fail
    refine HS.out.mono ?_
    rintro e w1 ⟨rfl, I1⟩
    have I2 := I1.alloc #[.int .u8 kd, .string ⟨tx.toArray⟩, .int .i64 ps] 58 rfl
    have z0 := I2.b0.cell 0
    have z1 := I2.b0.cell 1
    simp only [List.getElem?_toArray, List.getElem?_cons_zero, List.getElem?_cons_succ] at z0 z1
    have HNU := Lib.hid (rnum_inv 0 2147483647 (by decide) I2)
    clear I1 I2 HS
    go_wp2_with fail
    refine HNU.out.mono ?_
    rintro e w3 ⟨rfl, I3⟩
    obtain ⟨⟨r0, r1, r2, r3⟩, q0, q1, q2, q3⟩ := I3.b1.four
    have HQ := Lib.hid (fun v0 v1 v2 v3 => I3.st1 v0 v1 v2 v3)
    clear I3 HNU z0 z1
    go_wp2_with fail
    refine bodyPost_ret (node_result rfl rfl (HQ.out _ _ _ _).b1) rfl ?_
    exact (HQ.out _ _ _ _).done0 (k := 1) (nm := []) ⟨2, _, HFIN.out, fun _ => rfl⟩
  | false =>
    rw [c4] at hkd
    have hfin : ∀ n r, PP.place E n σ = some r → PP.unary E (n + 2) σ = some r := by
      intro n r hr
      rw [PP.unary]
      simp only [c1, c2, if_false, Bool.false_eq_true]
      rw [PP.primary]
      simp only [c3, c4, if_false, Bool.false_eq_true, hr]
    have e2 : (kd == 2) = false := by rw [← HKD.out]; exact beq_eq_false_iff_ne.2 (by simp at hkd; omega)
    have HFIN := Lib.hid hfin
    clear hfin HHU HHE hkd hsv c4
    go_enter Tryz.func103, Tryz.ntmps103
    go_wp2_with fail
    refine HS.out.mono ?_
    rintro e w1 ⟨rfl, I1⟩
    have I2 := I1.alloc #[.int .u8 kd, .string ⟨tx.toArray⟩, .int .i64 ps] 58 rfl
    have z0 := I2.b0.cell 0
    have z1 := I2.b0.cell 1
    simp only [List.getElem?_toArray, List.getElem?_cons_zero, List.getElem?_cons_succ] at z0 z1
    have HPC := Lib.hid (rtree_inv I2 (HPL.out _ I2.ps))
    clear I1 I2 HS
    go_wp2_with fail
    refine HPC.out.mono ?_
    rintro e w4 ⟨k, num, nm4, A, c, kids, σ4, rfl, I4, n4, t4, hr4, ht4⟩
    obtain ⟨⟨r0, r1, r2, r3⟩, q0, q1, q2, q3⟩ := I4.b1.four
    have HQ := Lib.hid (fun v0 v1 v2 v3 => I4.st1 v0 v1 v2 v3)
    have HR4 := Lib.hid (HFIN.out n4 _ hr4)
    have HT4 := Lib.hid ht4
    clear I4 HPC hr4 ht4 z0 z1
    go_wp2_with fail
    refine bodyPost_ret (node_result rfl rfl (HQ.out _ _ _ _).b1) rfl ?_
    exact (HQ.out _ _ _ _).done (k := k) (num := num) (nm := nm4) (c := c) (A := A) (kids := kids) (by simp) ⟨_, _, HR4.out, HT4.out⟩
end
end Go.Proofs.YtglaecalbamnkaaGreatDoor
