/- ParserCuts: the tokens of a correct program up to a point. -/
import Derived.Test.YtaaaicpjlaeiiaaDoorSame0
import Derived.Test.YtaaaicpjlaeiiaaDoorLawLevels
import Derived.Test.YtaaaicpjlaeiiaaDoorCutsAll
namespace Go.Proofs.YtaaaicpjlaeiiaaDoor
open Go.RowKit Go.Maps
open PP (Tree ArrD TaskD ProgD)

theorem zero_form {w : World} {base : Nat} {va vt : Value} {ba els bt bx kx} (h : ProgV w base va vt zeroP ba els bt bx kx) : ∃ A c A' c', va = .slice A 0 c ∧ vt = .slice A' 0 c' := by
  obtain ⟨Av, cv, rfl⟩ := h.ra.form
  obtain ⟨At, ct, rfl⟩ := h.rt.form
  have : els.length = 0 := by have := congrArg List.length h.td; simpa [zeroP] using this.symm
  rw [this]
  exact ⟨_, _, _, _, rfl, rfl⟩
theorem Blk.three {w : World} {g : Nat} {t : TypeId} {a b c : Value} (h : Blk w g t #[a, b, c]) : w.cell? ⟨g, 0, none⟩ = some a ∧ w.cell? ⟨g, 1, none⟩ = some b ∧ w.cell? ⟨g, 2, none⟩ = some c := ⟨h.cell 0, h.cell 1, h.cell 2⟩
theorem front_bytes (s : ByteArray) (p : Nat) : (s.extract 0 p).data.toList = s.data.toList.take p := by
  rw [Lib.extract_data]; simp
section
set_option maxHeartbeats 4000000
set_option maxRecDepth 100000
theorem cuts_walk (s : ByteArray) (b : Nat) (w : World) (hg : SignsIs w) (hO : OpsIs w) (hs : s.size ≤ maxLen) (hb : b ≤ 65535) :
    Calls Tryd.prog 11 #[.string s, .int .u16 (b : Int)] w fun e w' => e = .returned (.bool true) ∧ Below w.heap.size w w' := by
  have HG := Lib.hid hg
  have HO := Lib.hid hO
  have HA := Lib.hid (awake13_any w hg hO)
  have HSM := Lib.hid hs
  have hnot : ∀ (x : Bool) (w : World), (Op.unary .not (.bool x)).run Tryd.prog w = .ok (.bool (!x)) w := fun _ _ => rfl
  clear hg hO hs
  by_cases hl : 700 < s.size
  · have e1 : decide ((700 : Int) < (s.size : Int)) = true := by simp; omega
    have e2 : decide (700 < s.size) = true := by simp; omega
    go_enter Tryd.func11, Tryd.ntmps11
    go_wp2_with fail
    refine HA.out.mono ?_
    rintro e w1 ⟨rfl, hb1⟩
    go_wp2_with fail
    go_ret
    exact ⟨rfl, hb1⟩
  have e1 : decide ((700 : Int) < (s.size : Int)) = false := by simp; omega
  have e2 : decide (700 < s.size) = false := by simp; omega
  have hsl : s.size ≤ 700 := by omega
  clear hl
  obtain ⟨ts, at_, er, hL⟩ : ∃ ts a e, PL.lex s.data.toList = (ts, a, e) := ⟨_, _, _, rfl⟩
  have HL := Lib.hid hL
  clear hL
  go_enter Tryd.func11, Tryd.ntmps11
  go_wp2_with fail
  refine HA.out.mono ?_
  rintro e w1 ⟨rfl, hb1⟩
  have HB1 := Lib.hid hb1
  have hx := lex_any s w1 (HG.out.below hb1 HG.out.pos) HSM.out
  unfold LexEnd at hx
  rw [HL.out] at hx
  simp only [] at hx
  have HX := Lib.hid hx
  clear hb1 HA hx
  go_wp2_with fail
  refine HX.out.mono ?_
  rintro e w2 ⟨v1, rfl, hown1, hb2⟩
  have HB2 := Lib.hid (HB1.out.trans (hb2.mono HB1.out.size))
  obtain ⟨A1, c1, rfl, hR1⟩ := own_rt hown1
  have HP := Lib.hid (program_any s w2 HSM.out (HG.out.below HB2.out HG.out.pos) (HO.out.below HB2.out))
  have HR1 := Lib.hid hR1
  clear hb2 HX HB1 hown1 hR1
  go_wp2_with fail
  refine HP.out.mono ?_
  rintro e w3 ⟨va, vt, n, q, ba, els, bt, bx, kx, hq, rfl, hv, hb3⟩
  have HB3 := Lib.hid (HB2.out.trans (hb3.mono HB2.out.size))
  have HR3 := Lib.hid (HR1.out.below hb3)
  obtain ⟨Av, cv, rfl⟩ := hv.ra.form
  obtain ⟨At, ct, rfl⟩ := hv.rt.form
  have HQ := Lib.hid hq
  clear hb3 HP HB2 HR1 hv hq
  generalize (PP.out zeroP q).1.shared.length = na at *
  generalize els.length = nt at *
  by_cases hbad : er ≠ 0 ∨ q.1.err ≠ 0
  · have e3 : ((er : Int) != 0) = true ∨ (((er : Int) != 0) = false ∧ (((PP.out zeroP q).2.2 : Int) != 0) = true) := by
      by_cases h : er = 0
      · right
        have h2 : q.1.err ≠ 0 := by omega
        refine ⟨by simp [h], ?_⟩
        unfold PP.out; rw [if_neg h2]; simpa using h2
      · left; simpa using h
    generalize (PP.out zeroP q).2.1 = o1 at *
    generalize (PP.out zeroP q).2.2 = o2 at *
    clear hbad
    rcases e3 with e3 | ⟨e3, e4⟩
    · go_wp2_with fail
      go_ret
      exact ⟨rfl, HB3.out.alloc HB3.out.size _⟩
    · go_wp2_with fail
      go_ret
      exact ⟨rfl, HB3.out.alloc HB3.out.size _⟩
  have her : er = 0 := by omega
  have hqe : q.1.err = 0 := by omega
  subst her
  clear hbad
  have hat : at_ = 0 := (PL.lex_ok HL.out rfl).2.2
  subst hat
  rw [show PP.out zeroP q = (q.2, 0, 0) from by unfold PP.out; rw [if_pos hqe]]
  have hq' : PP.programP (PP.envL s.data.toList) n (PP.sigT s.data.toList) = some q := by rw [← envOf_eq, ← sigOf_eq]; exact HQ.out
  have hlaw := fun k x hx => PP.cuts_law HL.out hq' hqe (k := k) (x := x) hx
  have HLAW := Lib.hid hlaw
  have hcnt : ts.length ≤ 700 := by
    have := PL.lex_count HL.out
    rw [show s.data.toList.length = s.size from Array.length_toList] at this; omega
  have hB4 : Below w.heap.size w (w3.alloc (.cells #[.slice Av na cv, .slice At nt ct] 39)) := HB3.out.alloc HB3.out.size _
  have HS := Lib.hid (solid_toks A1 ts.length c1 ts (w3.alloc (.cells #[.slice Av na cv, .slice At nt ct] 39)) rfl (HR3.out.below ((Below.refl _ _).alloc (Nat.le_refl _) _)) (by omega))
  have HB4 := Lib.hid hB4
  have hflt : (ts.filter PL.solidT).length ≤ ts.length := List.length_filter_le _ _
  have HNN := Lib.hid hcnt
  generalize hm : (ts.filter PL.solidT).length = m at *
  have HM := Lib.hid hm
  generalize hnn : ts.length = nn at *
  clear hlaw hq' hqe HQ HR3 HB3 hB4 hm hnn
  go_wp2_with fail
  refine HS.out.mono ?_
  rintro e w5 ⟨A5, c5, rfl, hR5, hb5⟩
  have HB5 := Lib.hid (HB4.out.trans (hb5.mono HB4.out.size))
  have HR5 := Lib.hid hR5
  clear hb5 hR5 HS HB4
  by_cases hm0 : m = 0
  · subst hm0
    go_wp2_with fail
    go_ret
    exact ⟨rfl, HB5.out⟩
  have hne : ((m : Int) == 0) = false := by simp; omega
  have hkm : b % m < m := Nat.mod_lt _ (by omega)
  have hmod : (b : Int) % (m : Int) = ((b % m : Nat) : Int) := by simp
  generalize hi : b % m = i at *
  obtain ⟨x, hx⟩ : ∃ x, (ts.filter PL.solidT)[i]? = some x := ⟨_, List.getElem?_eq_getElem (by rw [HM.out]; exact hkm)⟩
  obtain ⟨hp, n2, r2, hr2, hF1, hF2⟩ := HLAW.out i x hx
  rw [show s.data.toList.length = s.size from Array.length_toList] at hp
  obtain ⟨g, o, rfl, hgl, hc⟩ := HR5.out (by intro h; rw [List.map_eq_nil_iff] at h; rw [h] at hx; simp at hx)
  obtain ⟨x0, x1, x2⟩ := hc i (rtOf x) (by rw [List.getElem?_map, hx]; rfl)
  simp only [rtOf] at x0 x1 x2
  generalize hxp : x.pos = xp at *
  generalize hxt : x.text = xt at *
  generalize hxk : x.kind = xk at *
  have HR2 := Lib.hid hr2
  have HF1 := Lib.hid hF1
  have HF2 := Lib.hid hF2
  clear hc hx hi HR5 hr2 hF1 hF2 hxp hxt hxk HLAW
  have hB6 : Below w.heap.size w (w5.alloc (.cells #[.int .u8 (xk : Int), .string ⟨xt.toArray⟩, .int .i64 (xp : Int)] 63)) := HB5.out.alloc HB5.out.size _
  have HB6 := Lib.hid hB6
  have HP2 := Lib.hid (program_at (s.extract 0 xp) _ (by simp [maxLen]; omega) (HG.out.below hB6 HG.out.pos) (HO.out.below hB6) (q := r2) (by rw [envOf_eq, sigOf_eq, front_bytes]; exact HR2.out))
  clear hB6 HB5
  go_wp2_with fail
  refine HP2.out.mono ?_
  rintro e w7 ⟨va7, vt7, ba7, els7, bt7, bx7, kx7, rfl, hv7, hb7⟩
  have HB7 := Lib.hid (HB6.out.trans (hb7.mono HB6.out.size))
  have kt : Blk w7 w5.heap.size 63 #[.int .u8 (xk : Int), .string ⟨xt.toArray⟩, .int .i64 (xp : Int)] := (hb7.block _ (by simp)).trans (Blk.new _ _ _)
  by_cases hfree : PP.Free xt
  · obtain ⟨f1, f2⟩ := HF1.out hfree
    have hout : PP.out zeroP r2 = (zeroP, xp, 4) := by unfold PP.out; rw [if_neg (by omega), f1, f2]
    rw [hout] at hv7 ⊢
    obtain ⟨B, d, B', d', rfl, rfl⟩ := zero_form hv7
    have t1 : ¬ xt = [116, 97, 115, 107] := hfree.1
    have t2 : ¬ xt = [115, 104, 97, 114, 101, 100] := hfree.2
    have t3 : (xt == [116, 97, 115, 107]) = false := beq_eq_false_iff_ne.2 t1
    have t4 : (xt == [115, 104, 97, 114, 101, 100]) = false := beq_eq_false_iff_ne.2 t2
    obtain ⟨_, y1, y2⟩ := kt.three
    have hlt := kt.lt
    have HB8 := Lib.hid (HB7.out.alloc HB7.out.size (.cells #[.slice B 0 d, .slice B' 0 d'] 39))
    clear hv7 hb7 kt HP2 HR2 HF1 HF2 hfree f1 f2 hout x0 x1 x2
    go_wp2_with fail
    refine (same_zero _ _ _ _ _ _ _ _ _).mono ?_
    rintro e w9 ⟨rfl, hb9⟩
    have HB9 := Lib.hid (HB8.out.trans (hb9.mono HB8.out.size))
    clear hb9 y1 y2
    go_wp2_with fail
    go_ret
    exact ⟨rfl, HB9.out⟩
  · obtain ⟨f1, f2⟩ := HF2.out hfree
    have hout : PP.out zeroP r2 = (r2.2, 0, 0) := by unfold PP.out; rw [if_pos f1]
    rw [hout] at hv7 ⊢
    obtain ⟨B, d, rfl⟩ := hv7.ra.form
    obtain ⟨B', d', rfl⟩ := hv7.rt.form
    have ht : xt = PP.kwTask ∨ (xt ≠ PP.kwTask ∧ xt = PP.kwShared) := by
      by_cases h : xt = PP.kwTask
      · exact .inl h
      · by_cases h2 : xt = PP.kwShared
        · exact .inr ⟨h, h2⟩
        · exact absurd ⟨h, h2⟩ hfree
    obtain ⟨_, y1, y2⟩ := kt.three
    have hlt := kt.lt
    have HB8 := Lib.hid (HB7.out.alloc HB7.out.size (.cells #[.slice B (r2.2, 0, 0).1.shared.length d, .slice B' els7.length d'] 39))
    clear hv7 hb7 kt HP2 HR2 HF1 HF2 hfree f1 f2 hout x0 x1 x2
    rcases ht with rfl | ⟨_, rfl⟩
    · have y1' : w7.cell? ⟨w5.heap.size, 1, none⟩ = some (.string ⟨#[116, 97, 115, 107]⟩) := y1
      clear y1
      go_wp2_with fail
      go_ret
      exact ⟨rfl, HB8.out⟩
    · have y1' : w7.cell? ⟨w5.heap.size, 1, none⟩ = some (.string ⟨#[115, 104, 97, 114, 101, 100]⟩) := y1
      clear y1
      go_wp2_with fail
      go_ret
      exact ⟨rfl, HB8.out⟩
end
end Go.Proofs.YtaaaicpjlaeiiaaDoor
