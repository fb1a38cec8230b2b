/- The auditor: the cutoffs. -/
import Derived.Test.YtpmbhdheeaejgaaGreatDoorAuF
import Derived.Deep.CutRange
namespace Go.Proofs.YtpmbhdheeaejgaaGreatDoor
open Go.RowKit Go.Maps
open SL (Tk Cd)
open AU (Pr Rq Ev Mo)
theorem AU.overI_pair {α : Type} {R : α → α → Prop} {f : Nat → Option α} (h : ∀ i j x y, i < j → f i = some x → f j = some y → R x y) : ∀ n, (AU.overI n f).Pairwise R
  | 0 => by simp [AU.overI_zero]
  | n + 1 => by
    rw [AU.overI_succ, List.pairwise_append]
    refine ⟨AU.overI_pair h n, ?_, ?_⟩
    · cases f n <;> simp
    · intro x hx y hy
      obtain ⟨i, hi, hf⟩ := AU.overI_mem.1 hx
      cases hn : f n with
      | none => rw [hn] at hy; simp at hy
      | some z =>
        rw [hn] at hy
        simp at hy
        subst hy
        exact h i n x y hi hf hn
theorem AU.cutF_some {ts : List Tk} {ps : List Pr} {slot i : Nat} {r : Rq} (h : AU.cutF ts ps slot i = some r) : ∃ t p, ts[i]? = some t ∧ ps[i]? = some p ∧ 0 < p.ran ∧ p.last = (slot : Int) ∧ r.core = p.core := by
  unfold AU.cutF at h
  split at h
  · rename_i t p h1 h2
    split at h
    · rename_i hb
      unfold AU.cutB at hb
      simp only [Bool.and_eq_true, decide_eq_true_eq] at hb
      injection h with h
      exact ⟨t, p, h1, h2, hb.1.1.2, hb.1.2, by rw [← h]⟩
    · cases h
  · cases h
theorem AU.cut_cores {ts : List Tk} {ps : List Pr} {slot : Nat} (ha : AU.Apart ps) (n : Nat) : ((AU.overI n (AU.cutF ts ps slot)).map (·.core)).Nodup := by
  rw [List.nodup_iff_pairwise_ne, List.pairwise_map]
  refine AU.overI_pair ?_ n
  intro i j x y hij hx hy
  obtain ⟨_, p, _, a1, a2, a3, a4⟩ := AU.cutF_some hx
  obtain ⟨_, q, _, b1, b2, b3, b4⟩ := AU.cutF_some hy
  rw [a4, b4]
  exact ha i j p q (by omega) a1 b1 a2 b2 (by rw [a3, b3])
theorem AU.cut_range {ts : List Tk} {ps : List Pr} {n slot J : Nat} (ho : AU.OkPs n slot J ts ps) (_hl : ps.length = ts.length) (k : Nat) : ∀ r ∈ AU.overI k (AU.cutF ts ps slot), 0 ≤ r.core ∧ r.core < n := by
  intro r hr
  obtain ⟨i, _, h⟩ := AU.overI_mem.1 hr
  obtain ⟨t, p, h1, h2, h3, _, h5⟩ := AU.cutF_some h
  rw [h5]
  exact (ho i t p h1 h2).core h3
section
set_option maxHeartbeats 2000000
set_option maxRecDepth 100000
theorem cutoffs_any {B : World} {X : Aud} (hx : AudOk B X) {gm gp : Nat} {m : Mo} {w : World} (hI : AInv B X gm gp m w) (hl : m.ps.length = X.ts.length) (hok : AU.OkPs X.n m.slot 1000000000 X.ts m.ps) (ha : AU.Apart m.ps) :
    Calls Tryz.prog 47 #[.pointer (some ⟨gm, 0, none⟩)] w fun e w' => ∃ v, e = .returned v ∧ w'.ownsRow w.heap.size 26 8 v (AU.cutL X.ts m.ps m.slot X.n).length (rqC m.slot 5 (AU.cutL X.ts m.ps m.slot X.n)) ∧ Below w.heap.size w w' := by
  obtain ⟨i1, ki, kz0, kz1, kz2⟩ := info_parts infoEv
  have K0 := Lib.hid ki
  have K1 := Lib.hid kz0
  have K2 := Lib.hid kz1
  have K3 := Lib.hid kz2
  have HX := Lib.hid hx
  have HI := Lib.hid hI
  have HOK := Lib.hid hok
  have HL := Lib.hid hl
  have h40 := hx.len
  obtain ⟨_, a2, _, _, _⟩ := hI.cells
  have hn := AU.cut_cores (ts := X.ts) (slot := m.slot) ha m.ps.length
  have hr := AU.cut_range (n := X.n) (J := 1000000000) hok hl m.ps.length
  unfold AU.cutL
  rw [hl] at hn hr ⊢
  rw [← srtC_eq hn hr]
  clear hr
  have hF : ∀ (k : Nat) (t : Tk) (p : Pr), X.ts[k]? = some t → m.ps[k]? = some p → AU.cutF X.ts m.ps m.slot k = if AU.cutB t p m.slot then some ⟨p.core, k, (p.jobs : Int) - 1, p.ran⟩ else none := fun k t p h1 h2 => by
    unfold AU.cutF
    rw [h1, h2]
  have HF := Lib.hid hF
  generalize AU.cutF X.ts m.ps m.slot = F at *
  have HN := Lib.hid hn
  clear hn ha
  clear ki kz0 kz1 kz2 hI hx hok hl hF
  go_enter Tryz.func47, Tryz.ntmps47
  go_wp2_with fail
  clear a2
  go_loopw [3, 11] (fun v i wr => ∃ k : Nat, k ≤ X.ts.length ∧ i = .int .i64 (k : Int) ∧ wr.ownsRow w.heap.size 26 8 v (AU.overI k F).length (rqC m.slot 5 (AU.overI k F)) ∧ Below w.heap.size w wr) (fun _ i _ => X.ts.length - (intOf i).toNat)
  case atStart => exact ⟨0, Nat.zero_le _, rfl, World.ownsRow_nil _ _ _ _, Below.refl _ _⟩
  case round =>
    obtain ⟨k, hk, rfl, hown, hbw⟩ := hrel
    obtain ⟨A3, c3, rfl⟩ := own_form hown
    have HO := Lib.hid hown
    have HB := Lib.hid hbw
    have hsw := hbw.size
    have HS := AU.overI_succ k F
    have hln := AU.overI_len k F
    generalize hacc : AU.overI k F = acc at *
    have HAC := Lib.hid hacc
    clear hacc
    have HSN := Lib.hid HS
    clear HS
    by_cases hlt : k < X.ts.length
    · have q0 : (k : Int) < (X.ts.length : Int) := by omega
      obtain ⟨t, ht⟩ : ∃ t, X.ts[k]? = some t := ⟨_, List.getElem?_eq_getElem hlt⟩
      obtain ⟨p, hp⟩ : ∃ p, m.ps[k]? = some p := ⟨_, List.getElem?_eq_getElem (by rw [HL.out]; exact hlt)⟩
      have hFk := HF.out k t p ht hp
      obtain ⟨b1, b2, b3, b4, b5, b6, b7⟩ := HOK.out k t p ht hp
      obtain ⟨v1, v2, v3⟩ := SL.okTk_iff.1 (HX.out.ok t (List.mem_of_getElem? ht))
      have hI2 := HI.out.below hbw
      obtain ⟨c0, c1, c2, c3', c4, c5⟩ := pr_cells hI2.bp hp
      have hba := ((Gr.refl wr).alloc (.cells #[.int .i64 (p.jobs : Int), .bool p.live, .int .i64 p.rel, .int .i64 p.ran, .int .i64 p.last, .int .i64 p.core] 93)).1
      have hI3 := hI2.below hba
      have HI3 := Lib.hid hI3
      obtain ⟨tb, to_, a0, _, t1, _⟩ := hI3.task HX.out ht
      obtain ⟨_, _, a3, _, _⟩ := hI3.cells
      obtain ⟨p0, p1, p2, p3, p4, p5⟩ := (Blk.new wr 93 #[.int .i64 (p.jobs : Int), .bool p.live, .int .i64 p.rel, .int .i64 p.ran, .int .i64 p.last, .int .i64 p.core]).six
      have HEV := Lib.hid (fun (n : Nat) => event_any (HI3.out.below ((Gr.refl (wr.alloc (.cells #[.int .i64 (p.jobs : Int), .bool p.live, .int .i64 p.rel, .int .i64 p.ran, .int .i64 p.last, .int .i64 p.core] 93))).drewN n).1) 5 k p.core p.ran p HL.out.symm h40 hp b1)
      have hlb : AU.cutB t p m.slot = (p.live && decide (0 < p.ran) && decide (p.last = (m.slot : Int)) && decide (t.cost ≤ p.ran)) := rfl
      rw [hlb] at hFk
      have HFK := Lib.hid hFk
      have HOA := Lib.hid (HO.out.alloc (.cells #[.int .i64 (p.jobs : Int), .bool p.live, .int .i64 p.rel, .int .i64 p.ran, .int .i64 p.last, .int .i64 p.core] 93))
      have HBA := Lib.hid (HB.out.alloc hsw (.cells #[.int .i64 (p.jobs : Int), .bool p.live, .int .i64 p.rel, .int .i64 p.ran, .int .i64 p.last, .int .i64 p.core] 93))
      have HP3 := Lib.hid (Blk.new wr 93 #[.int .i64 (p.jobs : Int), .bool p.live, .int .i64 p.rel, .int .i64 p.ran, .int .i64 p.last, .int .i64 p.core])
      clear hown hbw hI2 hI3 hba hFk hlb hp ht
      generalize p.live = lv at *
      go_upto_region 5 with fail
      generalize wr.alloc (.cells #[.int .i64 (p.jobs : Int), .bool lv, .int .i64 p.rel, .int .i64 p.ran, .int .i64 p.last, .int .i64 p.core] 93) = w1 at *
      clear c0 c1 c2 c3' c4 c5
      cases lv with
      | false =>
        have HFN := Lib.hid (show F k = none by rw [HFK.out]; simp [])
        have HSA := Lib.hid (show AU.overI (k + 1) F = acc by rw [HSN.out, HFN.out]; simp)
        clear HFK HSN HEV HP3 
        go_quiet (fail)
        go_wp2_with fail
        refine ⟨⟨k + 1, hlt, by simp, ?_, ?_⟩, by simp [intOf]; omega⟩
        · rw [HSA.out]; exact HOA.out
        · exact below_drewN HBA.out _
      | true =>
        by_cases h0 : 0 < p.ran
        · have d0 : decide (0 < p.ran) = true := decide_eq_true h0
          by_cases h1 : p.last = (m.slot : Int)
          · have d1 : (p.last == (m.slot : Int)) = true := by simp [h1]
            have d1' : decide (p.last = (m.slot : Int)) = true := decide_eq_true h1
            by_cases h2 : t.cost ≤ p.ran
            · have d2 : decide (t.cost ≤ p.ran) = true := decide_eq_true h2
              have HSA := Lib.hid (show AU.overI (k + 1) F = acc ++ [(⟨p.core, k, (p.jobs : Int) - 1, p.ran⟩ : Rq)] by rw [HSN.out, HFK.out, d0, d1', d2]; rfl)
              clear HFK HSN h0 h1 h2 d1'
              go_quiet (fail)
              have hb2 : Below w.heap.size w (w1.drewN nq) := below_drewN HBA.out _
              have ho2 : (w1.drewN nq).ownsRow w.heap.size 26 8 (.slice A3 acc.length c3) acc.length (rqC m.slot 5 acc) := HOA.out
              have HE2 := Lib.hid (HEV.out nq)
              obtain ⟨_, _, _, p3, _, p5⟩ := (HP3.out.drewN nq).six
              have HB2 := Lib.hid hb2
              have HO2 := Lib.hid ho2
              clear hb2 ho2 HEV HOA HBA HP3 HI3
              generalize w1.drewN nq = w2 at *
              rw [show (rqL m.slot 5 ⟨p.core, k, (p.jobs : Int) - 1, p.ran⟩).toArray = #[.int .i64 (m.slot : Int), .int .i64 p.core, .int .i64 (k : Int), .int .i64 ((p.jobs : Int) - 1), .int .u8 5, .int .i64 p.ran, .int .i64 0, .int .i64 0] from rfl] at HE2
              go_wp2_with fail
              refine HE2.out.mono ?_
              rintro e w5 ⟨rfl, hg5⟩
              have HO5 := Lib.hid (own_below HO2.out hg5.1)
              have hb5 := HB2.out.trans (hg5.1.mono HB2.out.size)
              have HB5 := Lib.hid hb5
              have hs5 := hb5.size
              clear hg5 hb5 HO2 HB2 HE2 p3 p5
              go_wp2_with (at_builtin; refine wpList_append_own _ rfl _ _ 22 rfl w.heap.size 26 i1 (.agg #[.int .i64 0, .int .i64 0, .int .i64 0, .int .i64 0, .int .u8 0, .int .i64 0, .int .i64 0, .int .i64 0]) 8 64 Tryz.underlying22 K0.out K1.out K2.out K3.out rfl (by decide) _ _ _ rfl (HO5.out.alloc _) ⟨w5.heap.size, 0, none⟩ 1 1 [.int .i64 (m.slot : Int), .int .i64 p.core, .int .i64 (k : Int), .int .i64 ((p.jobs : Int) - 1), .int .u8 5, .int .i64 p.ran, .int .i64 0, .int .i64 0] rfl rfl ?c1 ?c2 ?c3 ?c4 ?c5 ?_)
              case c1 => exact World.news_of_block (cs := #[.int .i64 (m.slot : Int), .int .i64 p.core, .int .i64 (k : Int), .int .i64 ((p.jobs : Int) - 1), .int .u8 5, .int .i64 p.ran, .int .i64 0, .int .i64 0]) (heap_alloc_new w5 _)
              case c2 => intro u hu; simp at hu; rcases hu with rfl | rfl | rfl | rfl | rfl | rfl | rfl | rfl <;> rfl
              case c3 => unfold maxLen; omega
              case c4 => omega
              case c5 => simp; omega
              intro v' w6 hown6 hg6 _
              have hlt6 := (HO5.out.alloc (.cells #[.int .i64 (m.slot : Int), .int .i64 p.core, .int .i64 (k : Int), .int .i64 ((p.jobs : Int) - 1), .int .u8 5, .int .i64 p.ran, .int .i64 0, .int .i64 0] 26)).lt
              have HB6 := Lib.hid (show Below w.heap.size w w6 from Below.grown (HB5.out.alloc hs5 (.cells #[.int .i64 (m.slot : Int), .int .i64 p.core, .int .i64 (k : Int), .int .i64 ((p.jobs : Int) - 1), .int .u8 5, .int .i64 p.ran, .int .i64 0, .int .i64 0] 26)) hg6 (by simp; omega) (fun k hk => (hlt6 k hk).1))
              have HR6 := Lib.hid (show w6.ownsRow w.heap.size 26 8 v' (acc ++ [(⟨p.core, k, (p.jobs : Int) - 1, p.ran⟩ : Rq)]).length (rqC m.slot 5 (acc ++ [(⟨p.core, k, (p.jobs : Int) - 1, p.ran⟩ : Rq)])) from (by
                rw [rqC_snoc]
                have h := hown6
                simpa [rqL] using h))
              clear hown6 hg6 hlt6
              go_wp2_with fail
              refine ⟨⟨k + 1, hlt, by simp, ?_, HB6.out⟩, by simp [intOf]; omega⟩
              rw [HSA.out]; exact HR6.out
            · have d2 : decide (t.cost ≤ p.ran) = false := decide_eq_false h2
              have HFN := Lib.hid (show F k = none by rw [HFK.out]; simp [d0, d1', d2])
              have HSA := Lib.hid (show AU.overI (k + 1) F = acc by rw [HSN.out, HFN.out]; simp)
              clear HFK HSN HEV HP3 h0 h1 h2 d1'
              go_quiet (fail)
              go_wp2_with fail
              refine ⟨⟨k + 1, hlt, by simp, ?_, ?_⟩, by simp [intOf]; omega⟩
              · rw [HSA.out]; exact HOA.out
              · exact below_drewN HBA.out _
          · have d1 : (p.last == (m.slot : Int)) = false := by simp [h1]
            have d1' : decide (p.last = (m.slot : Int)) = false := decide_eq_false h1
            have HFN := Lib.hid (show F k = none by rw [HFK.out]; simp [d0, d1'])
            have HSA := Lib.hid (show AU.overI (k + 1) F = acc by rw [HSN.out, HFN.out]; simp)
            clear HFK HSN HEV HP3 h0 h1 d1'
            go_quiet (fail)
            go_wp2_with fail
            refine ⟨⟨k + 1, hlt, by simp, ?_, ?_⟩, by simp [intOf]; omega⟩
            · rw [HSA.out]; exact HOA.out
            · exact below_drewN HBA.out _
        · have d0 : decide (0 < p.ran) = false := decide_eq_false h0
          have HFN := Lib.hid (show F k = none by rw [HFK.out]; simp [d0])
          have HSA := Lib.hid (show AU.overI (k + 1) F = acc by rw [HSN.out, HFN.out]; simp)
          clear HFK HSN HEV HP3 h0
          go_quiet (fail)
          go_wp2_with fail
          refine ⟨⟨k + 1, hlt, by simp, ?_, ?_⟩, by simp [intOf]; omega⟩
          · rw [HSA.out]; exact HOA.out
          · exact below_drewN HBA.out _
    · have q0 : ¬ (k : Int) < (X.ts.length : Int) := by omega
      have hke : k = X.ts.length := by omega
      subst hke
      rw [HAC.out] at HN
      have HSC := Lib.hid (sortCores_any m.slot 5 acc HN.out w.heap.size wr _ HO.out (by omega))
      have HPM := Lib.hid (srtC_perm acc).length_eq
      clear hown hbw HF HI HX HOK HN
      go_wp2_with fail
      refine HSC.out.mono ?_
      rintro e w7 ⟨rfl, h7, h8⟩
      have H7 := Lib.hid h7
      have H8 := Lib.hid (h8 w.heap.size w HB.out (Nat.le_refl _))
      clear h7 h8 HSC
      go_wp2_with fail
      go_ret
      refine ⟨_, rfl, ?_, H8.out⟩
      rw [HAC.out, HPM.out]
      exact H7.out
end
end Go.Proofs.YtpmbhdheeaejgaaGreatDoor
