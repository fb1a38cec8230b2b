/- The auditor: events sorted by their cores, candidates by priority. -/
import Derived.Test.YtpmbhdheeaejgaaGreatDoorAuE
import Derived.Test.YtpmbhdheeaejgaaGreatDoorSlS
namespace Go.Proofs.YtpmbhdheeaejgaaGreatDoor
open Go.RowKit Go.Maps Go.Sort Go.Lib
open SL (Tk Cd)
open AU (Pr Rq Ev Mo)
section
set_option maxHeartbeats 2000000
set_option maxRecDepth 100000
theorem cmpC_any (slot kind : Nat) (a b : Rq) (w : World) : Calls Tryz.prog 84 #[.agg (rqL slot kind a).toArray, .agg (rqL slot kind b).toArray] w fun e w' => e = .returned (.int .i64 (Lib.compareInt a.core b.core)) ∧ Gr w w' := by
  have HB1 := Lib.hid (((Gr.refl w).alloc (.cells #[.int .i64 (slot : Int), .int .i64 a.core, .int .i64 (a.task : Int), .int .i64 a.job, .int .u8 (kind : Int), .int .i64 a.value, .int .i64 0, .int .i64 0] 26)).alloc (.cells #[.int .i64 (slot : Int), .int .i64 b.core, .int .i64 (b.task : Int), .int .i64 b.job, .int .u8 (kind : Int), .int .i64 b.value, .int .i64 0, .int .i64 0] 26))
  have hka : Blk ((w.alloc (.cells #[.int .i64 (slot : Int), .int .i64 a.core, .int .i64 (a.task : Int), .int .i64 a.job, .int .u8 (kind : Int), .int .i64 a.value, .int .i64 0, .int .i64 0] 26)).alloc (.cells #[.int .i64 (slot : Int), .int .i64 b.core, .int .i64 (b.task : Int), .int .i64 b.job, .int .u8 (kind : Int), .int .i64 b.value, .int .i64 0, .int .i64 0] 26)) w.heap.size 26 #[.int .i64 (slot : Int), .int .i64 a.core, .int .i64 (a.task : Int), .int .i64 a.job, .int .u8 (kind : Int), .int .i64 a.value, .int .i64 0, .int .i64 0] := (Blk.new w 26 #[.int .i64 (slot : Int), .int .i64 a.core, .int .i64 (a.task : Int), .int .i64 a.job, .int .u8 (kind : Int), .int .i64 a.value, .int .i64 0, .int .i64 0]).alloc _
  have hkb : Blk ((w.alloc (.cells #[.int .i64 (slot : Int), .int .i64 a.core, .int .i64 (a.task : Int), .int .i64 a.job, .int .u8 (kind : Int), .int .i64 a.value, .int .i64 0, .int .i64 0] 26)).alloc (.cells #[.int .i64 (slot : Int), .int .i64 b.core, .int .i64 (b.task : Int), .int .i64 b.job, .int .u8 (kind : Int), .int .i64 b.value, .int .i64 0, .int .i64 0] 26)) (w.heap.size + 1) 26 #[.int .i64 (slot : Int), .int .i64 b.core, .int .i64 (b.task : Int), .int .i64 b.job, .int .u8 (kind : Int), .int .i64 b.value, .int .i64 0, .int .i64 0] := blk_second w _ _ _ _
  obtain ⟨x0, x1, x2, x3, x4, x5, x6, x7⟩ := hka.eight
  obtain ⟨y0, y1, y2, y3, y4, y5, y6, y7⟩ := hkb.eight
  rw [show (rqL slot kind a).toArray = #[.int .i64 (slot : Int), .int .i64 a.core, .int .i64 (a.task : Int), .int .i64 a.job, .int .u8 (kind : Int), .int .i64 a.value, .int .i64 0, .int .i64 0] from rfl, show (rqL slot kind b).toArray = #[.int .i64 (slot : Int), .int .i64 b.core, .int .i64 (b.task : Int), .int .i64 b.job, .int .u8 (kind : Int), .int .i64 b.value, .int .i64 0, .int .i64 0] from rfl]
  have HC := Lib.hid (fun W => Tryz.cmp_Compare_int a.core b.core W)
  generalize Lib.compareInt a.core b.core = R at *
  clear hka hkb
  go_enter Tryz.func84, Tryz.ntmps84
  go_wp2_with fail
  refine (HC.out _).mono ?_
  rintro e w2 ⟨rfl, rfl⟩
  go_wp2_with fail
  go_ret
  exact ⟨rfl, HB1.out⟩
theorem cmpS_any (a b : Cd) (w : World) (ha : okC a) (hb : okC b) : Calls Tryz.prog 81 #[.agg (cdV a), .agg (cdV b)] w fun e w' => e = .returned (.int .i64 (SL.cmp a b)) ∧ Gr w w' := by
  have HB1 := Lib.hid (((Gr.refl w).alloc (.cells #[.int .i64 (a.num : Int), .string a.tk.name, .int .i64 a.tk.cost, .int .i64 a.tk.per, .int .i64 a.rel, .int .i64 a.idx] 132)).alloc (.cells #[.int .i64 (b.num : Int), .string b.tk.name, .int .i64 b.tk.cost, .int .i64 b.tk.per, .int .i64 b.rel, .int .i64 b.idx] 132))
  have hka : Blk ((w.alloc (.cells #[.int .i64 (a.num : Int), .string a.tk.name, .int .i64 a.tk.cost, .int .i64 a.tk.per, .int .i64 a.rel, .int .i64 a.idx] 132)).alloc (.cells #[.int .i64 (b.num : Int), .string b.tk.name, .int .i64 b.tk.cost, .int .i64 b.tk.per, .int .i64 b.rel, .int .i64 b.idx] 132)) w.heap.size 132 (cdV a) := (Blk.new w 132 (cdV a)).alloc _
  have hkb : Blk ((w.alloc (.cells #[.int .i64 (a.num : Int), .string a.tk.name, .int .i64 a.tk.cost, .int .i64 a.tk.per, .int .i64 a.rel, .int .i64 a.idx] 132)).alloc (.cells #[.int .i64 (b.num : Int), .string b.tk.name, .int .i64 b.tk.cost, .int .i64 b.tk.per, .int .i64 b.rel, .int .i64 b.idx] 132)) (w.heap.size + 1) 132 (cdV b) := blk_second w _ _ _ _
  obtain ⟨x0, x1, x2, x3, x4, x5⟩ := hka.six
  obtain ⟨y0, y1, y2, y3, y4, y5⟩ := hkb.six
  have HBE := Lib.hid (fun W => (show Calls Tryz.prog 82 #[.agg #[.int .i64 (a.num : Int), .string a.tk.name, .int .i64 a.tk.cost, .int .i64 a.tk.per, .int .i64 a.rel, .int .i64 a.idx], .agg #[.int .i64 (b.num : Int), .string b.tk.name, .int .i64 b.tk.cost, .int .i64 b.tk.per, .int .i64 b.rel, .int .i64 b.idx]] W fun e w' => e = .returned (.bool (SL.bef a b)) ∧ Gr W w' from before_any a b W ha hb))
  have hR : SL.cmp a b = if a.num = b.num then 0 else if SL.bef a b then -1 else 1 := rfl
  rw [hR, show cdV a = #[.int .i64 (a.num : Int), .string a.tk.name, .int .i64 a.tk.cost, .int .i64 a.tk.per, .int .i64 a.rel, .int .i64 a.idx] from rfl, show cdV b = #[.int .i64 (b.num : Int), .string b.tk.name, .int .i64 b.tk.cost, .int .i64 b.tk.per, .int .i64 b.rel, .int .i64 b.idx] from rfl]
  generalize SL.bef a b = R at *
  clear hka hkb hR ha hb
  by_cases h : a.num = b.num
  · have e1 : ((a.num : Int) == (b.num : Int)) = true := by simp [h]
    rw [if_pos h]
    clear h
    go_enter Tryz.func81, Tryz.ntmps81
    go_wp2_with fail
    go_ret
    exact ⟨rfl, HB1.out⟩
  · have e1 : ((a.num : Int) == (b.num : Int)) = false := by simp; omega
    rw [if_neg h]
    clear h
    go_enter Tryz.func81, Tryz.ntmps81
    go_wp2_with fail
    refine (HBE.out _).mono ?_
    rintro e w2 ⟨rfl, hb⟩
    have HB2 := Lib.hid (HB1.out.trans hb)
    clear hb
    cases R <;> go_wp2_with fail
    all_goals
      go_ret
      exact ⟨rfl, HB2.out⟩
theorem sortCd2_any (l : List Cd) (hl : okCs l) (base : Nat) (w : World) (v : Value) (h : w.ownsRow base 132 6 v l.length (cdC l)) (hsz : l.length ≤ 1000) :
    Calls Tryz.prog 80 #[v, .func (.func 81) #[] #[]] w fun e w' => e = .returned (.tuple #[]) ∧ w'.ownsRow base 132 6 v l.length (cdC (SL.srt l)) ∧ FxT [132] w w' ∧ (∀ B w0, Below B w0 w → B ≤ base → Below B w0 w') ∧ ∀ T w0, FxT T w0 w → w0.heap.size ≤ base → FxT T w0 w' := by
  by_cases hz : l = []
  · subst hz
    obtain ⟨A, cap, rfl⟩ := own_form h
    refine (AnyF.slices_SortFunc_none (P := Tryz.prog) Tryz.sortCd A cap _ w).mono ?_
    rintro e w' ⟨rfl, rfl⟩
    exact ⟨rfl, by rw [show SL.srt [] = [] from by simp [SL.srt]]; exact h, FxT.refl _ _, fun B w0 hB _ => hB, fun T w0 hF _ => hF⟩
  · have hn : 0 < l.length := List.length_pos_iff.2 hz
    rcases h.2 with ⟨_, e0⟩ | ⟨g, cap, cur, rfl, hb, hg, hnc, hm, hs, ht⟩
    · omega
    have hlt : g < w.heap.size := (Array.getElem?_eq_some_iff.1 hg).1
    haveI : Inhabited (Fin l.length) := ⟨⟨0, hn⟩⟩
    have hk : ∀ x, (encF l x).length = 6 := fun _ => rfl
    have hflat : (flatK (encF l) 6 (List.finRange l.length).toArray).toList = cdC l := by
      rw [flatK_list (encF l) 6 hk]
      unfold cdC encF
      conv => rhs; rw [← map_finRange l]
      rw [List.flatMap_map]
    have hH : HoldsK (encF l) 6 w g 0 (List.finRange l.length).toArray := by
      intro j hj
      have hj' : j < l.length * 6 := by simpa using hj
      refine ⟨?_, by simp [World.frozen?, hg]⟩
      have e1 : (cur.toList.take (l.length * 6))[j]? = (cdC l)[j]? := by rw [ht]
      rw [← hflat, List.getElem?_take, if_pos hj', Array.getElem?_toList, Array.getElem?_toList, Array.getElem?_eq_getElem hj] at e1
      simp only [World.cell?, hg, Nat.zero_add]
      simp only [Option.isSome_none, Bool.false_eq_true, if_false]
      rw [e1, getElem!_pos _ j hj]
      rfl
    have hcmp : CmpLays Tryz.prog 81 #[] (encF l) 6 (cfF l) g 0 (List.finRange l.length).toArray.size w := fun m os dk _ x y => by
      have h1 := Calls.gr (cmpS_any (l.get x) (l.get y) (sortWorldK (encF l) 6 w g 0 m dk os) (hl.1 _ (List.get_mem l x)) (hl.1 _ (List.get_mem l y)))
      exact h1
    have hcon := AnyQ.slices_SortFunc_total (P := Tryz.prog) Tryz.sortCd 6 Tryz.isAgg132 Tryz.sizeOf132 (encF l) hk (fun x u hu => by
      simp [encF, cdL, cdV] at hu
      rcases hu with rfl | rfl | rfl | rfl | rfl | rfl <;> rfl) (cfF l) (swo_bef hl.2) 81 #[] g 0 cap (List.finRange l.length).toArray w (fun args W => by kernel_rfl) hcmp hH hlt (by simp; omega) (fun x y h1 h2 => by
        rw [lt_bef hl.2] at h1 h2
        exact bef_cases hl.2 x y h1 h2)
    have hcs : (List.finRange l.length).toArray.size = l.length := by simp
    rw [hcs] at hcon
    refine Calls.mono hcon ?_
    rintro e w' ⟨rfl, q, os, rfl⟩
    rw [lt_bef hl.2]
    have hF : (flatK (encF l) 6 ((List.finRange l.length).mergeSort fun x y => !SL.bef (l.get y) (l.get x)).toArray).toList = cdC (SL.srt l) := by
      rw [flatK_list (encF l) 6 hk]
      unfold cdC SL.srt encF
      rw [List.flatMap_map]
    obtain ⟨h1, h2, h3, h4⟩ := own_putRow h (flatK (encF l) 6 ((List.finRange l.length).mergeSort fun x y => !SL.bef (l.get y) (l.get x)).toArray) (by simp) q os
    rw [hF] at h1
    exact ⟨rfl, h1, h2, fun B w0 hB hBb => h3 B w0 hB (Nat.le_trans hBb hb), fun T w0 hF hBb => h4 T w0 hF (Nat.le_trans hBb hb)⟩
/-- The places of a list in the order of the cores. -/
def ltC (l : List Rq) (i j : Fin l.length) : Bool := decide ((l.get i).core < (l.get j).core)
def srtC (l : List Rq) : List Rq := ((List.finRange l.length).mergeSort fun x y => !ltC l y x).map l.get
def cfE (l : List Rq) (i j : Fin l.length) : Int := Lib.compareInt (l.get i).core (l.get j).core
def encE (slot kind : Nat) (l : List Rq) (i : Fin l.length) : List Value := rqL slot kind (l.get i)
theorem lt_cfE (l : List Rq) : ltOf (cfE l) = ltC l := by
  funext i j
  unfold ltOf cfE ltC Lib.compareInt
  by_cases h : (l.get i).core < (l.get j).core
  · rw [if_pos h]
    exact (decide_eq_true (by decide)).trans (decide_eq_true h).symm
  · rw [if_neg h, decide_eq_false h]
    split <;> rfl
theorem core_inj {l : List Rq} (h : (l.map (·.core)).Nodup) {i j : Fin l.length} (e : (l.get i).core = (l.get j).core) : i = j := by
  have hi : (l.map (·.core))[i.val]'(by simp) = (l.map (·.core))[j.val]'(by simp) := by simpa using e
  exact Fin.ext ((List.getElem_inj h).1 hi)
theorem ltC_cases {l : List Rq} (h : (l.map (·.core)).Nodup) (i j : Fin l.length) (h1 : ltC l i j = false) (h2 : ltC l j i = false) : i = j := by
  unfold ltC at h1 h2
  simp only [decide_eq_false_iff_not] at h1 h2
  exact core_inj h (by omega)
theorem swo_ltC (l : List Rq) : SWO (ltC l) := by
  unfold ltC
  exact ⟨fun x => by simp, fun x y z h1 h2 => by simp only [decide_eq_true_eq] at *; omega, fun x y z h1 h2 => by simp only [decide_eq_false_iff_not] at *; omega⟩
theorem srtC_perm (l : List Rq) : (srtC l).Perm l := by
  unfold srtC
  have h := (List.mergeSort_perm (List.finRange l.length) (fun x y => !ltC l y x)).map l.get
  rw [map_finRange] at h
  exact h
theorem srtC_sorted {l : List Rq} (h : (l.map (·.core)).Nodup) : (srtC l).Pairwise fun a b => a.core < b.core := by
  have hs := List.pairwise_mergeSort (le := fun x y => !ltC l y x) (fun a b c h1 h2 => by unfold ltC at *; simp only [Bool.not_eq_true', decide_eq_false_iff_not] at *; omega) (fun a b => by unfold ltC; simp; omega) (List.finRange l.length)
  have hn : ((List.finRange l.length).mergeSort fun x y => !ltC l y x).Nodup := (List.mergeSort_perm _ _).nodup_iff.2 (List.nodup_finRange _)
  unfold srtC
  rw [List.pairwise_map]
  rw [List.nodup_iff_pairwise_ne] at hn
  refine (hs.and hn).imp ?_
  rintro a b ⟨h1, h2⟩
  unfold ltC at h1
  simp only [Bool.not_eq_true', decide_eq_false_iff_not] at h1
  have : (l.get a).core ≠ (l.get b).core := fun e => h2 (core_inj h e)
  omega
theorem srtC_eq {n : Nat} {l : List Rq} (hn : (l.map (·.core)).Nodup) (h : ∀ r ∈ l, 0 ≤ r.core ∧ r.core < n) : srtC l = AU.byCore n l := AU.byCore_eq (srtC_perm l) (srtC_sorted hn) h
theorem sortEv_any (slot kind : Nat) (l : List Rq) (hl : (l.map (·.core)).Nodup) (base : Nat) (w : World) (v : Value) (h : w.ownsRow base 26 8 v l.length (rqC slot kind l)) (hsz : l.length ≤ 1000) :
    Calls Tryz.prog 83 #[v, .func (.func 84) #[] #[]] w fun e w' => e = .returned (.tuple #[]) ∧ w'.ownsRow base 26 8 v l.length (rqC slot kind (srtC l)) ∧ ∀ B w0, Below B w0 w → B ≤ base → Below B w0 w' := by
  by_cases hz : l = []
  · subst hz
    obtain ⟨A, cap, rfl⟩ := own_form h
    refine (AnyF.slices_SortFunc_none (P := Tryz.prog) Tryz.sortEv A cap _ w).mono ?_
    rintro e w' ⟨rfl, rfl⟩
    exact ⟨rfl, by rw [show srtC [] = [] from by simp [srtC]]; exact h, fun B w0 hB _ => hB⟩
  · have hn : 0 < l.length := List.length_pos_iff.2 hz
    rcases h.2 with ⟨_, e0⟩ | ⟨g, cap, cur, rfl, hb, hg, hnc, hm, hs, ht⟩
    · omega
    have hlt : g < w.heap.size := (Array.getElem?_eq_some_iff.1 hg).1
    haveI : Inhabited (Fin l.length) := ⟨⟨0, hn⟩⟩
    have hk : ∀ x, (encE slot kind l x).length = 8 := fun _ => rfl
    have hflat : (flatK (encE slot kind l) 8 (List.finRange l.length).toArray).toList = rqC slot kind l := by
      rw [flatK_list (encE slot kind l) 8 hk]
      unfold rqC encE
      conv => rhs; rw [← map_finRange l]
      rw [List.flatMap_map]
    have hH : HoldsK (encE slot kind l) 8 w g 0 (List.finRange l.length).toArray := by
      intro j hj
      have hj' : j < l.length * 8 := by simpa using hj
      refine ⟨?_, by simp [World.frozen?, hg]⟩
      have e1 : (cur.toList.take (l.length * 8))[j]? = (rqC slot kind l)[j]? := by rw [ht]
      rw [← hflat, List.getElem?_take, if_pos hj', Array.getElem?_toList, Array.getElem?_toList, Array.getElem?_eq_getElem hj] at e1
      simp only [World.cell?, hg, Nat.zero_add]
      simp only [Option.isSome_none, Bool.false_eq_true, if_false]
      rw [e1, getElem!_pos _ j hj]
      rfl
    have hcmp : CmpLays Tryz.prog 84 #[] (encE slot kind l) 8 (cfE l) g 0 (List.finRange l.length).toArray.size w := fun m os dk _ x y => by
      have h1 := Calls.gr (cmpC_any slot kind (l.get x) (l.get y) (sortWorldK (encE slot kind l) 8 w g 0 m dk os))
      exact h1
    have hcon := AnyQ.slices_SortFunc_total (P := Tryz.prog) Tryz.sortEv 8 Tryz.isAgg26 Tryz.sizeOf26 (encE slot kind l) hk (fun x u hu => by
      simp [encE, rqL] at hu
      rcases hu with rfl | rfl | rfl | rfl | rfl | rfl | rfl | rfl <;> rfl) (cfE l) (by rw [lt_cfE]; exact swo_ltC l) 84 #[] g 0 cap (List.finRange l.length).toArray w (fun args W => by kernel_rfl) hcmp hH hlt (by simp; omega) (fun x y h1 h2 => by
        rw [lt_cfE] at h1 h2
        exact ltC_cases hl x y h1 h2)
    have hcs : (List.finRange l.length).toArray.size = l.length := by simp
    rw [hcs] at hcon
    refine Calls.mono hcon ?_
    rintro e w' ⟨rfl, q, os, rfl⟩
    rw [lt_cfE]
    have hF : (flatK (encE slot kind l) 8 ((List.finRange l.length).mergeSort fun x y => !ltC l y x).toArray).toList = rqC slot kind (srtC l) := by
      rw [flatK_list (encE slot kind l) 8 hk]
      unfold rqC srtC encE
      rw [List.flatMap_map]
    obtain ⟨h1, _, h3, _⟩ := own_putRow h (flatK (encE slot kind l) 8 ((List.finRange l.length).mergeSort fun x y => !ltC l y x).toArray) (by simp) q os
    rw [hF] at h1
    exact ⟨rfl, h1, fun B w0 hB hBb => h3 B w0 hB (Nat.le_trans hBb hb)⟩
theorem sortCores_any (slot kind : Nat) (l : List Rq) (hl : (l.map (·.core)).Nodup) (base : Nat) (w : World) (v : Value) (h : w.ownsRow base 26 8 v l.length (rqC slot kind l)) (hsz : l.length ≤ 1000) :
    Calls Tryz.prog 63 #[v] w fun e w' => e = .returned (.tuple #[]) ∧ w'.ownsRow base 26 8 v l.length (rqC slot kind (srtC l)) ∧ ∀ B w0, Below B w0 w → B ≤ base → Below B w0 w' := by
  have HS := Lib.hid (sortEv_any slot kind l hl base w v h hsz)
  clear h hl
  go_enter Tryz.func63, Tryz.ntmps63
  go_wp2_with fail
  refine HS.out.mono ?_
  rintro e w2 ⟨rfl, h1, h2⟩
  have H1 := Lib.hid h1
  have H2 := Lib.hid h2
  clear h1 h2
  go_wp2_with fail
  go_end0
  exact ⟨rfl, H1.out, H2.out⟩
end
end Go.Proofs.YtpmbhdheeaejgaaGreatDoor
