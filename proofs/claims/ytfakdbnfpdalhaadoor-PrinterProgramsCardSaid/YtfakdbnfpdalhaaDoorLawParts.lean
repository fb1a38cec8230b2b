/- The reference printer's Expr and Lines for every valid tree, and the walk of PrinterParts. -/
import Derived.Test.YtfakdbnfpdalhaaDoorLawParens14
import Derived.Test.YtfakdbnfpdalhaaDoorRefS
import Derived.Test.YtfakdbnfpdalhaaDoorRefU
namespace Go.Proofs.YtfakdbnfpdalhaaDoor
open Go.RowKit
open PP (Tree)
theorem kind_le {t : Tree} (h : PP.okT t 101 = true) : t.kind ≤ 23 := by
  cases t with
  | node k num nm kids =>
    simp only [PP.okT, Bool.and_eq_true] at h
    have hk : 1 ≤ k ∧ k ≤ 23 := by simpa [PP.belongs] using h.1
    exact hk.2
theorem rexpr_upto : ∀ (n : Nat) (t : Tree), t.size ≤ n → n ≤ 40000 → PP.okT t 101 = true → RExprOk t
  | 0, t, hs, _, _ => by have := t.size_pos; omega
  | n + 1, .node k num nm kids, hs, hn, h => by
    rcases PP.okE_inv h with ⟨rfl, h0, h1, rfl, rfl⟩ | ⟨rfl, rfl, hnm, rfl⟩ | ⟨rfl, rfl, hnm, a, rfl, ha⟩ | ⟨hk, rfl, rfl, a, rfl, ha⟩ | ⟨h1, h2, rfl, rfl, a, d, rfl, ha, hd⟩
    all_goals simp only [PP.Tree.size, PP.sizeL] at hs
    · exact rexpr_num h0 h1
    · exact rexpr_var
    · have := PP.okEE ha
      exact rexpr_item (rexpr_upto n a (by omega) (by omega) ha) (by have := PP.isName_len hnm; omega) (by omega)
    · have := PP.okEE ha
      exact rexpr_un (by omega) (by omega) (rexpr_upto n a (by omega) (by omega) ha) (by omega) (by have := kind_le ha; omega)
    · have i1 := PP.okEE ha
      have i2 := PP.okEE hd
      exact rexpr_bin h1 h2 (rexpr_upto n a (by omega) (by omega) ha) (rexpr_upto n d (by omega) (by omega) hd) (by omega) (by omega) (kind_le ha) (kind_le hd)
theorem rexpr_all {t : Tree} (h : PP.okT t 101 = true) (hs : t.size ≤ 40000) : RExprOk t := rexpr_upto t.size t (Nat.le_refl _) hs h
theorem rstmt_upto : ∀ (n : Nat), n ≤ 40000 → (∀ t : Tree, t.size ≤ n → PP.okT t 115 = true → RStmtOk t) ∧ (∀ t : Tree, t.size ≤ n → PP.okT t 98 = true → RLinesOk t)
  | 0, _ => ⟨fun t hs => by have := t.size_pos; omega, fun t hs => by have := t.size_pos; omega⟩
  | n + 1, hn => by
    obtain ⟨ihS, ihB⟩ := rstmt_upto n (by omega)
    refine ⟨fun t hs h => ?_, fun t hs h => ?_⟩
    · cases t with
      | node k num nm kids =>
        rcases PP.okS_inv h with ⟨rfl, rfl, rfl, a, d, rfl, ha, hd⟩ | ⟨rfl, rfl, rfl, a, d, f, rfl, ha, hd, hf⟩ | ⟨rfl, h1, h2, _, a, rfl, ha⟩ | ⟨rfl, h1, h2, rfl, a, d, rfl, ha, hd⟩ | ⟨rfl, h1, h2, rfl, a, rfl, ha⟩ | ⟨rfl, h1, h2, rfl, a, rfl, ha⟩ | ⟨rfl, rfl, _, a, rfl, ha⟩
        all_goals simp only [PP.Tree.size, PP.sizeL] at hs
        · exact rstmt_assign (rexpr_all (PP.okT_place ha) (by omega)) (rexpr_all hd (by omega))
        · exact rstmt_if (rexpr_all ha (by omega)) (ihB _ (by omega) hd) (ihB _ (by omega) hf)
        · obtain ⟨m, rfl⟩ := Int.eq_ofNat_of_zero_le (by omega : 0 ≤ num)
          exact rstmt_for (ihB _ (by omega) ha) (by omega)
        · obtain ⟨m, rfl⟩ := Int.eq_ofNat_of_zero_le (by omega : 0 ≤ num)
          exact rstmt_while (rexpr_all ha (by omega)) (ihB _ (by omega) hd) (by omega)
        · obtain ⟨m, rfl⟩ := Int.eq_ofNat_of_zero_le (by omega : 0 ≤ num)
          exact rstmt_in (rexpr_all (PP.okT_place ha) (by omega)) (by omega)
        · obtain ⟨m, rfl⟩ := Int.eq_ofNat_of_zero_le (by omega : 0 ≤ num)
          exact rstmt_out (rexpr_all ha (by omega)) (by omega)
        · exact rstmt_lock (ihB _ (by omega) ha)
    · cases t with
      | node k num nm kids =>
        obtain ⟨rfl, rfl, rfl, hk⟩ := PP.okB_inv h
        simp only [PP.Tree.size] at hs
        have hl := kids_len kids
        refine lines14 (fun x hx => ihS x ?_ (okS_mem hk hx)) (by omega)
        have := size_memL hx; omega
theorem rlines_all {t : Tree} (h : PP.okT t 98 = true) (hs : t.size ≤ 40000) : RLinesOk t := (rstmt_upto t.size hs).2 t (Nat.le_refl _) h
theorem not_both {t : Tree} (h : PP.okT t 101 = true) : PP.okT t 98 = false := by
  cases hb : PP.okT t 98 with
  | false => rfl
  | true =>
    cases t with
    | node k num nm kids =>
      have h1 := (PP.okB_inv hb).1
      have h2 := kind_le h
      simp only [PP.Tree.kind] at h2
      omega
section
set_option maxHeartbeats 4000000
set_option maxRecDepth 100000
theorem parts14_walk {w : World} {A : Option Addr} {kids : List Tree} {k : Nat} {num : Int} {nm : List UInt8} {c : Nat} (h : LArg w A kids) (hbd : PP.bdT (.node k num nm kids)) :
    Calls Tryd.prog 3 #[.agg #[.int .u8 (k : Int), .int .i64 num, .string ⟨nm.toArray⟩, .slice A kids.length c]] w fun e w' => e = .returned (.bool true) ∧ Below w.heap.size w w' := by
  have hnot : ∀ (x : Bool) (w : World), (Op.unary .not (.bool x)).run Tryd.prog w = .ok (.bool (!x)) w := fun _ _ => rfl
  have hb : Below w.heap.size w (w.alloc (.cells #[.int .u8 (k : Int), .int .i64 num, .string ⟨nm.toArray⟩, .slice A kids.length c] 24)) := (Below.refl _ _).alloc (Nat.le_refl _) _
  have hblk := Blk.new w 24 #[.int .u8 (k : Int), .int .i64 num, .string ⟨nm.toArray⟩, .slice A kids.length c]
  have h1 := h.below hb
  have HAW := Lib.hid (awake14_any _ h1.ops h1.pow h1.sg)
  have HL := Lib.hid h
  have HBD := Lib.hid hbd
  have HB0 := Lib.hid hb
  have HK0 := Lib.hid hblk
  have x0 := True.intro
  have x1 := True.intro
  have x2 := True.intro
  have x3 := True.intro
  have hl0 := True.intro
  clear h hbd hb hblk h1
  go_enter Tryd.func3, Tryd.ntmps3
  go_wp2_with fail
  refine HAW.out.mono ?_
  rintro e w1 ⟨rfl, hb1⟩
  have g1 := HB0.out.trans (hb1.mono HB0.out.size)
  have HB1 := Lib.hid g1
  have hk1 := Blk.below HK0.out hb1
  clear x0 x1 x2 x3 hl0
  obtain ⟨x0, x1, x2, x3⟩ := hk1.four.1
  have hl1 := hk1.lt
  have HK1 := Lib.hid hk1
  have hsm := small_any (k := k) (num := num) (nm := nm) (c := c) (HL.out.below g1).ks HBD.out
  clear g1 hb1 hk1 HK0 HAW
  by_cases hc : PP.cntT (.node k num nm kids) 20 ≤ 500
  · rw [show decide (PP.cntT (.node k num nm kids) 20 ≤ 500) = true from by simpa using hc] at hsm
    obtain ⟨c1, c2, c3⟩ := PP.cntT_ok (.node k num nm kids) 20 (by omega)
    have HSZ := Lib.hid (show (Tree.node k num nm kids).size ≤ 40000 from by omega)
    have HDP := Lib.hid c2
    have hsz : PP.sizeL kids ≤ 999999 := by simp only [PP.Tree.size] at c1; omega
    simp only [PP.nmT, Bool.and_eq_true, decide_eq_true_iff] at c3
    obtain ⟨hnm, hnk⟩ := c3
    have HSM := Lib.hid hsm
    have HNK := Lib.hid hnk
    have HDQ := Lib.hid (show PP.depthL kids ≤ 900 from by simp only [PP.Tree.depth] at c2; omega)
    have HLN : Hid (PP.okT (.node k num nm kids) 98 = true → (PP.prB (.node k num nm kids) 0).length ≤ 1000000000000) := Lib.hid (by
      intro hok
      have hks := (PP.okB_inv hok).2.2.2
      have := (PP.prS_len (PP.sizeL kids)).2 kids 0 (Nat.le_refl _) hks (by simp only [PP.Tree.depth] at c2; omega)
      simp only [PP.prB]
      simp only [PP.Tree.size] at c1
      omega)
    clear hsm hc c1 c2 hnk
    cases hoe : PP.okT (.node k num nm kids) 101 with
    | true =>
      have HE := Lib.hid hoe
      have HBK := Lib.hid (not_both hoe)
      clear hoe
      go_wp2_with fail
      refine HSM.out.mono ?_
      rintro e w2 ⟨rfl, hb2⟩
      have g2 := HB1.out.trans (hb2.mono HB1.out.size)
      have HB2 := Lib.hid g2
      have hk2 := Blk.below HK1.out hb2
      clear x0 x1 x2 x3 hl1
      obtain ⟨x0, x1, x2, x3⟩ := hk2.four.1
      have hl2 := hk2.lt
      have HK2 := Lib.hid hk2
      have hpe := printExpr_any (k := k) (num := num) (nm := nm) (c := c) ((HL.out.below g2).parg hsz HNK.out) hnm
      rw [show exprOut (.node k num nm kids) = (PP.prE (.node k num nm kids), 0) from by unfold exprOut; rw [HE.out]; rfl] at hpe
      have HPE := Lib.hid hpe
      clear hpe
      clear g2 hb2 hk2 HK1 HSM
      go_wp2_with fail
      refine HPE.out.mono ?_
      rintro e w3 ⟨rfl, hb3⟩
      have g3 := HB2.out.trans (hb3.mono HB2.out.size)
      have HB3 := Lib.hid g3
      have hk3 := Blk.below HK2.out hb3
      clear x0 x1 x2 x3 hl2
      obtain ⟨x0, x1, x2, x3⟩ := hk3.four.1
      have hl3 := hk3.lt
      have HK3 := Lib.hid hk3
      have hie := isExpr_any (k := k) (num := num) (nm := nm) (c := c) ((HL.out.below g3).parg hsz HNK.out) hnm
      rw [HE.out] at hie
      have HIE := Lib.hid hie
      clear hie
      clear g3 hb3 hk3 HK2 HPE
      go_wp2_with fail
      refine HIE.out.mono ?_
      rintro e w4 ⟨rfl, hb4⟩
      have g4 := HB3.out.trans (hb4.mono HB3.out.size)
      have HB4 := Lib.hid g4
      have hk4 := Blk.below HK3.out hb4
      clear x0 x1 x2 x3 hl3
      obtain ⟨x0, x1, x2, x3⟩ := hk4.four.1
      have hl4 := hk4.lt
      have HK4 := Lib.hid hk4
      have HRE := Lib.hid (rexpr_all HE.out HSZ.out w4 w4.heap.size k num nm A c kids rfl (HL.out.below g4).ks (Nat.le_refl _))
      generalize (⟨(PP.prE (.node k num nm kids)).toArray⟩ : ByteArray) = TXT at *
      clear g4 hb4 hk4 HK3 HIE
      go_wp2_with fail
      refine HRE.out.mono ?_
      rintro e w5 ⟨rfl, hb5⟩
      have g5 := HB4.out.trans (hb5.mono HB4.out.size)
      have HB5 := Lib.hid g5
      have hk5 := Blk.below HK4.out hb5
      clear x0 x1 x2 x3 hl4
      obtain ⟨x0, x1, x2, x3⟩ := hk5.four.1
      have hl5 := hk5.lt
      have HK5 := Lib.hid hk5
      have hpb := printBlock_any (k := k) (num := num) (nm := nm) (c := c) ((HL.out.below g5).parg hsz HNK.out) hnm HDQ.out
      rw [show blockOut (.node k num nm kids) = ([], 3) from by unfold blockOut; rw [HBK.out]; rfl] at hpb
      have HPB := Lib.hid hpb
      clear hpb
      clear g5 hb5 hk5 HK4 HRE
      go_wp2_with fail
      refine HPB.out.mono ?_
      rintro e w6 ⟨rfl, hb6⟩
      have g6 := HB5.out.trans (hb6.mono HB5.out.size)
      have HB6 := Lib.hid g6
      have hk6 := Blk.below HK5.out hb6
      clear x0 x1 x2 x3 hl5
      obtain ⟨x0, x1, x2, x3⟩ := hk6.four.1
      have hl6 := hk6.lt
      have HK6 := Lib.hid hk6
      have hib := isBlock_any (k := k) (num := num) (nm := nm) (c := c) ((HL.out.below g6).parg hsz HNK.out) hnm
      rw [HBK.out] at hib
      have HIB := Lib.hid hib
      clear hib
      clear g6 hb6 hk6 HK5 HPB
      go_wp2_with fail
      refine HIB.out.mono ?_
      rintro e w7 ⟨rfl, hb7⟩
      have g7 := HB6.out.trans (hb7.mono HB6.out.size)
      have HB7 := Lib.hid g7
      have hk7 := Blk.below HK6.out hb7
      clear x0 x1 x2 x3 hl6
      obtain ⟨x0, x1, x2, x3⟩ := hk7.four.1
      have hl7 := hk7.lt
      have HK7 := Lib.hid hk7
      clear g7 hb7 hk7 HK6 HIB
      go_wp2_with fail
      go_ret
      exact ⟨rfl, HB7.out⟩
    | false =>
      have HE := Lib.hid hoe
      clear hoe
      cases hob : PP.okT (.node k num nm kids) 98 with
      | true =>
        have HBK := Lib.hid hob
        clear hob
        go_wp2_with fail
        refine HSM.out.mono ?_
        rintro e w2 ⟨rfl, hb2⟩
        have g2 := HB1.out.trans (hb2.mono HB1.out.size)
        have HB2 := Lib.hid g2
        have hk2 := Blk.below HK1.out hb2
        clear x0 x1 x2 x3 hl1
        obtain ⟨x0, x1, x2, x3⟩ := hk2.four.1
        have hl2 := hk2.lt
        have HK2 := Lib.hid hk2
        have hpe := printExpr_any (k := k) (num := num) (nm := nm) (c := c) ((HL.out.below g2).parg hsz HNK.out) hnm
        rw [show exprOut (.node k num nm kids) = ([], 3) from by unfold exprOut; rw [HE.out]; rfl] at hpe
        have HPE := Lib.hid hpe
        clear hpe
        clear g2 hb2 hk2 HK1 HSM
        go_wp2_with fail
        refine HPE.out.mono ?_
        rintro e w3 ⟨rfl, hb3⟩
        have g3 := HB2.out.trans (hb3.mono HB2.out.size)
        have HB3 := Lib.hid g3
        have hk3 := Blk.below HK2.out hb3
        clear x0 x1 x2 x3 hl2
        obtain ⟨x0, x1, x2, x3⟩ := hk3.four.1
        have hl3 := hk3.lt
        have HK3 := Lib.hid hk3
        have hie := isExpr_any (k := k) (num := num) (nm := nm) (c := c) ((HL.out.below g3).parg hsz HNK.out) hnm
        rw [HE.out] at hie
        have HIE := Lib.hid hie
        clear hie
        clear g3 hb3 hk3 HK2 HPE
        go_wp2_with fail
        refine HIE.out.mono ?_
        rintro e w4 ⟨rfl, hb4⟩
        have g4 := HB3.out.trans (hb4.mono HB3.out.size)
        have HB4 := Lib.hid g4
        have hk4 := Blk.below HK3.out hb4
        clear x0 x1 x2 x3 hl3
        obtain ⟨x0, x1, x2, x3⟩ := hk4.four.1
        have hl4 := hk4.lt
        have HK4 := Lib.hid hk4
        have hpb := printBlock_any (k := k) (num := num) (nm := nm) (c := c) ((HL.out.below g4).parg hsz HNK.out) hnm HDQ.out
        rw [show blockOut (.node k num nm kids) = (PP.prB (.node k num nm kids) 0, 0) from by unfold blockOut; rw [HBK.out]; rfl] at hpb
        have HPB := Lib.hid hpb
        clear hpb
        clear g4 hb4 hk4 HK3 HIE
        go_wp2_with fail
        refine HPB.out.mono ?_
        rintro e w5 ⟨rfl, hb5⟩
        have g5 := HB4.out.trans (hb5.mono HB4.out.size)
        have HB5 := Lib.hid g5
        have hk5 := Blk.below HK4.out hb5
        clear x0 x1 x2 x3 hl4
        obtain ⟨x0, x1, x2, x3⟩ := hk5.four.1
        have hl5 := hk5.lt
        have HK5 := Lib.hid hk5
        have hib := isBlock_any (k := k) (num := num) (nm := nm) (c := c) ((HL.out.below g5).parg hsz HNK.out) hnm
        rw [HBK.out] at hib
        have HIB := Lib.hid hib
        clear hib
        clear g5 hb5 hk5 HK4 HPB
        go_wp2_with fail
        refine HIB.out.mono ?_
        rintro e w6 ⟨rfl, hb6⟩
        have g6 := HB5.out.trans (hb6.mono HB5.out.size)
        have HB6 := Lib.hid g6
        have hk6 := Blk.below HK5.out hb6
        clear x0 x1 x2 x3 hl5
        obtain ⟨x0, x1, x2, x3⟩ := hk6.four.1
        have hl6 := hk6.lt
        have HK6 := Lib.hid hk6
        have hrl := rlines_all HBK.out HSZ.out w6 w6.heap.size k num nm A c kids 0 rfl (HL.out.below g6).ks (Nat.le_refl _) (by have := HDP.out; omega) (HLN.out HBK.out)
        have HRL := Lib.hid hrl
        clear hrl
        generalize (⟨(PP.prB (.node k num nm kids) 0).toArray⟩ : ByteArray) = TXT at *
        clear g6 hb6 hk6 HK5 HIB
        go_wp2_with fail
        refine HRL.out.mono ?_
        rintro e w7 ⟨rfl, hb7⟩
        have g7 := HB6.out.trans (hb7.mono HB6.out.size)
        have HB7 := Lib.hid g7
        have hk7 := Blk.below HK6.out hb7
        clear x0 x1 x2 x3 hl6
        obtain ⟨x0, x1, x2, x3⟩ := hk7.four.1
        have hl7 := hk7.lt
        have HK7 := Lib.hid hk7
        clear g7 hb7 hk7 HK6 HRL
        go_wp2_with fail
        go_ret
        exact ⟨rfl, HB7.out⟩
      | false =>
        have HBK := Lib.hid hob
        clear hob
        go_wp2_with fail
        refine HSM.out.mono ?_
        rintro e w2 ⟨rfl, hb2⟩
        have g2 := HB1.out.trans (hb2.mono HB1.out.size)
        have HB2 := Lib.hid g2
        have hk2 := Blk.below HK1.out hb2
        clear x0 x1 x2 x3 hl1
        obtain ⟨x0, x1, x2, x3⟩ := hk2.four.1
        have hl2 := hk2.lt
        have HK2 := Lib.hid hk2
        have hpe := printExpr_any (k := k) (num := num) (nm := nm) (c := c) ((HL.out.below g2).parg hsz HNK.out) hnm
        rw [show exprOut (.node k num nm kids) = ([], 3) from by unfold exprOut; rw [HE.out]; rfl] at hpe
        have HPE := Lib.hid hpe
        clear hpe
        clear g2 hb2 hk2 HK1 HSM
        go_wp2_with fail
        refine HPE.out.mono ?_
        rintro e w3 ⟨rfl, hb3⟩
        have g3 := HB2.out.trans (hb3.mono HB2.out.size)
        have HB3 := Lib.hid g3
        have hk3 := Blk.below HK2.out hb3
        clear x0 x1 x2 x3 hl2
        obtain ⟨x0, x1, x2, x3⟩ := hk3.four.1
        have hl3 := hk3.lt
        have HK3 := Lib.hid hk3
        have hie := isExpr_any (k := k) (num := num) (nm := nm) (c := c) ((HL.out.below g3).parg hsz HNK.out) hnm
        rw [HE.out] at hie
        have HIE := Lib.hid hie
        clear hie
        clear g3 hb3 hk3 HK2 HPE
        go_wp2_with fail
        refine HIE.out.mono ?_
        rintro e w4 ⟨rfl, hb4⟩
        have g4 := HB3.out.trans (hb4.mono HB3.out.size)
        have HB4 := Lib.hid g4
        have hk4 := Blk.below HK3.out hb4
        clear x0 x1 x2 x3 hl3
        obtain ⟨x0, x1, x2, x3⟩ := hk4.four.1
        have hl4 := hk4.lt
        have HK4 := Lib.hid hk4
        have hpb := printBlock_any (k := k) (num := num) (nm := nm) (c := c) ((HL.out.below g4).parg hsz HNK.out) hnm HDQ.out
        rw [show blockOut (.node k num nm kids) = ([], 3) from by unfold blockOut; rw [HBK.out]; rfl] at hpb
        have HPB := Lib.hid hpb
        clear hpb
        clear g4 hb4 hk4 HK3 HIE
        go_wp2_with fail
        refine HPB.out.mono ?_
        rintro e w5 ⟨rfl, hb5⟩
        have g5 := HB4.out.trans (hb5.mono HB4.out.size)
        have HB5 := Lib.hid g5
        have hk5 := Blk.below HK4.out hb5
        clear x0 x1 x2 x3 hl4
        obtain ⟨x0, x1, x2, x3⟩ := hk5.four.1
        have hl5 := hk5.lt
        have HK5 := Lib.hid hk5
        have hib := isBlock_any (k := k) (num := num) (nm := nm) (c := c) ((HL.out.below g5).parg hsz HNK.out) hnm
        rw [HBK.out] at hib
        have HIB := Lib.hid hib
        clear hib
        clear g5 hb5 hk5 HK4 HPB
        go_wp2_with fail
        refine HIB.out.mono ?_
        rintro e w6 ⟨rfl, hb6⟩
        have g6 := HB5.out.trans (hb6.mono HB5.out.size)
        have HB6 := Lib.hid g6
        have hk6 := Blk.below HK5.out hb6
        clear x0 x1 x2 x3 hl5
        obtain ⟨x0, x1, x2, x3⟩ := hk6.four.1
        have hl6 := hk6.lt
        have HK6 := Lib.hid hk6
        clear g6 hb6 hk6 HK5 HIB
        go_wp2_with fail
        go_ret
        exact ⟨rfl, HB6.out⟩
  · rw [show decide (PP.cntT (.node k num nm kids) 20 ≤ 500) = false from by simpa using hc] at hsm
    have HSM := Lib.hid hsm
    clear hsm hc
    go_wp2_with fail
    refine HSM.out.mono ?_
    rintro e w2 ⟨rfl, hb2⟩
    have HB2 := Lib.hid (HB1.out.trans (hb2.mono HB1.out.size))
    clear hb2
    go_wp2_with fail
    go_ret
    exact ⟨rfl, HB2.out⟩
end
end Go.Proofs.YtfakdbnfpdalhaaDoor
