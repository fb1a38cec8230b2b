/- The walk of PrinterBlocks. -/
import Derived.Test.YtfakdbnfpdalhaaGreatDoorLawParens14
import Derived.Test.YtfakdbnfpdalhaaGreatDoorCatK
import Derived.Test.YtfakdbnfpdalhaaGreatDoorPlainRd2
namespace Go.Proofs.YtfakdbnfpdalhaaGreatDoor
open Go.RowKit
open PP (Tree)
theorem size_mkB (l : List UInt8) : (⟨l.toArray⟩ : ByteArray).size = l.length := by simp [ByteArray.size]
theorem blockP_det {E : PP.Env} {n m : Nat} {σ : PP.St} {q q' : PP.St × Tree} (h : PP.blockP E n σ = some q) (h' : PP.blockP E m σ = some q') : q = q' := by
  unfold PP.blockP at h h'
  obtain ⟨x, hx, rfl⟩ := Option.map_eq_some_iff.1 h
  obtain ⟨y, hy, rfl⟩ := Option.map_eq_some_iff.1 h'
  have e : x = y := Option.some.inj ((PP.stmts_le E (Nat.le_max_left n m) hx).symm.trans (PP.stmts_le E (Nat.le_max_right n m) hy))
  rw [e]
theorem block_at (s : ByteArray) (w : World) (hs : s.size ≤ maxLen) (hg : SignsIs w) (hO : OpsIs w) {n : Nat} {q : PP.St × Tree} (hq : PP.blockP (envOf s) n (sigOf s) = some q) : Calls Tryz.prog 12 #[.string s] w fun r w' =>
    ∃ v, r = .returned (.tuple #[v, .int .i64 ((PP.out PP.zeroT q).2.1 : Int), .int .i64 ((PP.out PP.zeroT q).2.2 : Int)]) ∧ NodeV w' (w.heap.size ≤ ·) v (PP.out PP.zeroT q).1 ∧ Below w.heap.size w w' :=
  (block13_any s w hs hg hO).mono fun _ _ ⟨v, _, _, h1, h2, h3, h4⟩ => ⟨v, by rw [h2, blockP_det h1 hq], by rw [← blockP_det h1 hq]; exact h3, h4⟩
namespace PP
theorem okB_mk {l : List Tree} (h : okS l = true) : okT (.node 47 0 [] l) 98 = true := by
  rw [okT, if_pos rfl, h]; rfl
theorem prL_app : ∀ (l m : List Tree) (i : Nat), prL (l ++ m) i = prL l i ++ prL m i
  | [], _, _ => rfl
  | t :: l, m, i => by simp [prL, prL_app l m i]
theorem depthL_app : ∀ (l m : List Tree) (d : Nat), depthL l ≤ d → depthL m ≤ d → depthL (l ++ m) ≤ d
  | [], _, _, _, h => h
  | t :: l, m, d, h1, h2 => by
    simp only [List.cons_append, depthL] at h1 ⊢
    have := depthL_app l m d (by omega) h2
    omega
theorem nmL_app : ∀ {l m : List Tree}, nmL l = true → nmL m = true → nmL (l ++ m) = true
  | [], _, _, h => h
  | t :: l, m, h1, h2 => by
    simp only [List.cons_append, nmL, Bool.and_eq_true] at h1 ⊢
    exact ⟨h1.1, nmL_app h1.2 h2⟩
end PP
section
set_option maxHeartbeats 8000000
set_option maxRecDepth 100000
theorem blocks14_walk {w : World} {A : Option Addr} {kids : List Tree} {km : Nat} {num : Int} {nm : List UInt8} {c : Nat} (h : LArg w A kids) (hbd : PP.bdT (.node km num nm kids))
    {A' : Option Addr} {kids' : List Tree} {km' : Nat} {num' : Int} {nm' : List UInt8} {c' : Nat} (h' : LArg w A' kids') (hbd' : PP.bdT (.node km' num' nm' kids')) :
    Calls Tryz.prog 5 #[.agg #[.int .u8 (km : Int), .int .i64 num, .string ⟨nm.toArray⟩, .slice A kids.length c], .agg #[.int .u8 (km' : Int), .int .i64 num', .string ⟨nm'.toArray⟩, .slice A' kids'.length c']] w fun e w' => e = .returned (.bool true) ∧ Below w.heap.size w w' := by
  have hnot : ∀ (x : Bool) (w : World), (Op.unary .not (.bool x)).run Tryz.prog w = .ok (.bool (!x)) w := fun _ _ => rfl
  have hb : Below w.heap.size w ((w.alloc (.cells #[.int .u8 (km : Int), .int .i64 num, .string ⟨nm.toArray⟩, .slice A kids.length c] 36)).alloc (.cells #[.int .u8 (km' : Int), .int .i64 num', .string ⟨nm'.toArray⟩, .slice A' kids'.length c'] 36)) := ((Below.refl _ _).alloc (Nat.le_refl _) _).alloc (by simp) _
  have hblk := (Blk.new w 36 #[.int .u8 (km : Int), .int .i64 num, .string ⟨nm.toArray⟩, .slice A kids.length c]).alloc (.cells #[.int .u8 (km' : Int), .int .i64 num', .string ⟨nm'.toArray⟩, .slice A' kids'.length c'] 36)
  have hblk' := blk_second w 36 36 #[.int .u8 (km : Int), .int .i64 num, .string ⟨nm.toArray⟩, .slice A kids.length c] #[.int .u8 (km' : Int), .int .i64 num', .string ⟨nm'.toArray⟩, .slice A' kids'.length c']
  have h1 := h.below hb
  have HAW := Lib.hid (awake14_any _ h1.ops h1.pow h1.sg)
  have HL := Lib.hid h
  have HM := Lib.hid h'
  have HBD := Lib.hid hbd
  have HBE := Lib.hid hbd'
  have HB0 := Lib.hid hb
  have HK0 := Lib.hid hblk
  have HN0 := Lib.hid hblk'
  have x0 := True.intro
  have x1 := True.intro
  have x2 := True.intro
  have x3 := True.intro
  have y0 := True.intro
  have y1 := True.intro
  have y2 := True.intro
  have y3 := True.intro
  have hl0 := True.intro
  have hm0 := True.intro
  clear h hbd h' hbd' hb hblk hblk' h1
  go_enter Tryz.func5, Tryz.ntmps5
  go_wp2_with fail
  refine HAW.out.mono ?_
  rintro e w1 ⟨rfl, hb1⟩
  have g1 := HB0.out.trans (hb1.mono HB0.out.size)
  have HB1 := Lib.hid g1
  have hk1 := Blk.below HK0.out hb1
  have hn1 := Blk.below HN0.out hb1
  clear x0 x1 x2 x3 y0 y1 y2 y3 hl0 hm0
  obtain ⟨x0, x1, x2, x3⟩ := hk1.four.1
  obtain ⟨y0, y1, y2, y3⟩ := hn1.four.1
  have hl1 := hk1.lt
  have hm1 := hn1.lt
  have HK1 := Lib.hid hk1
  have HN1 := Lib.hid hn1
  have hsm := small_any (k := km) (num := num) (nm := nm) (c := c) (HL.out.below g1).ks HBD.out
  clear g1 hb1 hk1 hn1 HK0 HN0 HAW
  by_cases hc : PP.cntT (.node km num nm kids) 20 ≤ 500
  · rw [show decide (PP.cntT (.node km num nm kids) 20 ≤ 500) = true from by simpa using hc] at hsm
    obtain ⟨c1, c2, c3⟩ := PP.cntT_ok (.node km num nm kids) 20 (by omega)
    have hsza : PP.sizeL kids ≤ 500 := by simp only [PP.Tree.size] at c1; omega
    have hdpa : PP.depthL kids ≤ 20 := by simp only [PP.Tree.depth] at c2; omega
    simp only [PP.nmT, Bool.and_eq_true, decide_eq_true_iff] at c3
    obtain ⟨hnma, hnka⟩ := c3
    have HSM := Lib.hid hsm
    have HNMa := Lib.hid hnma
    have HNKa := Lib.hid hnka
    have HSZa := Lib.hid hsza
    have HDPa := Lib.hid hdpa
    clear hsm hc c1 c2 hnka hnma hsza hdpa
    go_wp2_with fail
    refine HSM.out.mono ?_
    rintro e w2 ⟨rfl, hb2⟩
    have g2 := HB1.out.trans (hb2.mono HB1.out.size)
    have HB2 := Lib.hid g2
    have hk2 := Blk.below HK1.out hb2
    have hn2 := Blk.below HN1.out hb2
    clear x0 x1 x2 x3 y0 y1 y2 y3 hl1 hm1
    obtain ⟨x0, x1, x2, x3⟩ := hk2.four.1
    obtain ⟨y0, y1, y2, y3⟩ := hn2.four.1
    have hl2 := hk2.lt
    have hm2 := hn2.lt
    have HK2 := Lib.hid hk2
    have HN2 := Lib.hid hn2
    have hsm := small_any (k := km') (num := num') (nm := nm') (c := c') (HM.out.below g2).ks HBE.out
    clear g2 hb2 hk2 hn2 HK1 HN1 HSM
    by_cases hc : PP.cntT (.node km' num' nm' kids') 20 ≤ 500
    · rw [show decide (PP.cntT (.node km' num' nm' kids') 20 ≤ 500) = true from by simpa using hc] at hsm
      obtain ⟨c1, c2, c3⟩ := PP.cntT_ok (.node km' num' nm' kids') 20 (by omega)
      have hszb : PP.sizeL kids' ≤ 500 := by simp only [PP.Tree.size] at c1; omega
      have hdpb : PP.depthL kids' ≤ 20 := by simp only [PP.Tree.depth] at c2; omega
      simp only [PP.nmT, Bool.and_eq_true, decide_eq_true_iff] at c3
      obtain ⟨hnmb, hnkb⟩ := c3
      have HSM := Lib.hid hsm
      have HNMb := Lib.hid hnmb
      have HNKb := Lib.hid hnkb
      have HSZb := Lib.hid hszb
      have HDPb := Lib.hid hdpb
      clear hsm hc c1 c2 hnkb hnmb hszb hdpb
      go_wp2_with fail
      refine HSM.out.mono ?_
      rintro e w3 ⟨rfl, hb3⟩
      have g3 := HB2.out.trans (hb3.mono HB2.out.size)
      have HB3 := Lib.hid g3
      have hk3 := Blk.below HK2.out hb3
      have hn3 := Blk.below HN2.out hb3
      clear x0 x1 x2 x3 y0 y1 y2 y3 hl2 hm2
      obtain ⟨x0, x1, x2, x3⟩ := hk3.four.1
      obtain ⟨y0, y1, y2, y3⟩ := hn3.four.1
      have hl3 := hk3.lt
      have hm3 := hn3.lt
      have HK3 := Lib.hid hk3
      have HN3 := Lib.hid hn3
      have hib := isBlock_any (k := km) (num := num) (nm := nm) (c := c) ((HL.out.below g3).parg (Nat.le_trans HSZa.out (by omega)) HNKa.out) HNMa.out
      clear g3 hb3 hk3 hn3 HK2 HN2 HSM
      cases hok : PP.okT (.node km num nm kids) 98 with
      | false =>
        rw [hok] at hib
        have HIB := Lib.hid hib
        clear hib hok
        go_wp2_with fail
        refine HIB.out.mono ?_
        rintro e w4 ⟨rfl, hb4⟩
        have HB4 := Lib.hid (HB3.out.trans (hb4.mono HB3.out.size))
        clear hb4 HIB
        go_wp2_with fail
        go_ret
        exact ⟨rfl, HB4.out⟩
      | true =>
        rw [hok] at hib
        have HIB := Lib.hid hib
        have HOKa := Lib.hid hok
        clear hib hok
        go_wp2_with fail
        refine HIB.out.mono ?_
        rintro e w4 ⟨rfl, hb4⟩
        have g4 := HB3.out.trans (hb4.mono HB3.out.size)
        have HB4 := Lib.hid g4
        have hk4 := Blk.below HK3.out hb4
        have hn4 := Blk.below HN3.out hb4
        clear x0 x1 x2 x3 y0 y1 y2 y3 hl3 hm3
        obtain ⟨x0, x1, x2, x3⟩ := hk4.four.1
        obtain ⟨y0, y1, y2, y3⟩ := hn4.four.1
        have hl4 := hk4.lt
        have hm4 := hn4.lt
        have HK4 := Lib.hid hk4
        have HN4 := Lib.hid hn4
        have hib := isBlock_any (k := km') (num := num') (nm := nm') (c := c') ((HM.out.below g4).parg (Nat.le_trans HSZb.out (by omega)) HNKb.out) HNMb.out
        clear g4 hb4 hk4 hn4 HK3 HN3 HIB
        cases hok : PP.okT (.node km' num' nm' kids') 98 with
        | false =>
          rw [hok] at hib
          have HIB := Lib.hid hib
          clear hib hok
          go_wp2_with fail
          refine HIB.out.mono ?_
          rintro e w5 ⟨rfl, hb5⟩
          have HB5 := Lib.hid (HB4.out.trans (hb5.mono HB4.out.size))
          clear hb5 HIB
          go_wp2_with fail
          go_ret
          exact ⟨rfl, HB5.out⟩
        | true =>
          rw [hok] at hib
          have HIB := Lib.hid hib
          have HOKb := Lib.hid hok
          clear hib hok
          go_wp2_with fail
          refine HIB.out.mono ?_
          rintro e w5 ⟨rfl, hb5⟩
          have g5 := HB4.out.trans (hb5.mono HB4.out.size)
          have HB5 := Lib.hid g5
          have hk5 := Blk.below HK4.out hb5
          have hn5 := Blk.below HN4.out hb5
          clear x0 x1 x2 x3 y0 y1 y2 y3 hl4 hm4
          obtain ⟨x0, x1, x2, x3⟩ := hk5.four.1
          obtain ⟨y0, y1, y2, y3⟩ := hn5.four.1
          have hl5 := hk5.lt
          have hm5 := hn5.lt
          have HK5 := Lib.hid hk5
          have HN5 := Lib.hid hn5
          have hli := limited14 (k := km) (num := num) (nm := nm) (c := c) (HL.out.below g5).ks (Nat.le_trans HSZa.out (by omega))
          clear g5 hb5 hk5 hn5 HK4 HN4 HIB
          cases hla : PP.large (.node km num nm kids) with
          | true =>
            rw [hla] at hli
            have HLI := Lib.hid hli
            clear hli hla
            go_wp2_with fail
            refine HLI.out.mono ?_
            rintro e w6 ⟨rfl, hb6⟩
            have HB6 := Lib.hid (HB5.out.trans (hb6.mono HB5.out.size))
            clear hb6 HLI
            go_wp2_with fail
            go_ret
            exact ⟨rfl, HB6.out⟩
          | false =>
            rw [hla] at hli
            have HLI := Lib.hid hli
            have HLA := Lib.hid hla
            clear hli hla
            go_wp2_with fail
            refine HLI.out.mono ?_
            rintro e w6 ⟨rfl, hb6⟩
            have g6 := HB5.out.trans (hb6.mono HB5.out.size)
            have HB6 := Lib.hid g6
            have hk6 := Blk.below HK5.out hb6
            have hn6 := Blk.below HN5.out hb6
            clear x0 x1 x2 x3 y0 y1 y2 y3 hl5 hm5
            obtain ⟨x0, x1, x2, x3⟩ := hk6.four.1
            obtain ⟨y0, y1, y2, y3⟩ := hn6.four.1
            have hl6 := hk6.lt
            have hm6 := hn6.lt
            have HK6 := Lib.hid hk6
            have HN6 := Lib.hid hn6
            have hpb := printBlock_any (k := km) (num := num) (nm := nm) (c := c) ((HL.out.below g6).parg (Nat.le_trans HSZa.out (by omega)) HNKa.out) HNMa.out (Nat.le_trans HDPa.out (by omega))
            rw [show blockOut (.node km num nm kids) = (PP.prB (.node km num nm kids) 0, 0) from by unfold blockOut; rw [HOKa.out]; rfl] at hpb
            have HPB := Lib.hid hpb
            clear hpb
            clear g6 hb6 hk6 hn6 HK5 HN5 HLI
            go_wp2_with fail
            refine HPB.out.mono ?_
            rintro e w7 ⟨rfl, hb7⟩
            have g7 := HB6.out.trans (hb7.mono HB6.out.size)
            have HB7 := Lib.hid g7
            have hk7 := Blk.below HK6.out hb7
            have hn7 := Blk.below HN6.out hb7
            clear x0 x1 x2 x3 y0 y1 y2 y3 hl6 hm6
            obtain ⟨x0, x1, x2, x3⟩ := hk7.four.1
            obtain ⟨y0, y1, y2, y3⟩ := hn7.four.1
            have hl7 := hk7.lt
            have hm7 := hn7.lt
            have HK7 := Lib.hid hk7
            have HN7 := Lib.hid hn7
            have hpb := printBlock_any (k := km') (num := num') (nm := nm') (c := c') ((HM.out.below g7).parg (Nat.le_trans HSZb.out (by omega)) HNKb.out) HNMb.out (Nat.le_trans HDPb.out (by omega))
            rw [show blockOut (.node km' num' nm' kids') = (PP.prB (.node km' num' nm' kids') 0, 0) from by unfold blockOut; rw [HOKb.out]; rfl] at hpb
            have HPB := Lib.hid hpb
            clear hpb
            clear g7 hb7 hk7 hn7 HK6 HN6
            go_wp2_with fail
            refine HPB.out.mono ?_
            rintro e w8 ⟨rfl, hb8⟩
            have g8 := HB7.out.trans (hb8.mono HB7.out.size)
            have HB8 := Lib.hid g8
            have hk8 := Blk.below HK7.out hb8
            have hn8 := Blk.below HN7.out hb8
            clear x0 x1 x2 x3 y0 y1 y2 y3 hl7 hm7
            obtain ⟨x0, x1, x2, x3⟩ := hk8.four.1
            obtain ⟨y0, y1, y2, y3⟩ := hn8.four.1
            have hl8 := hk8.lt
            have hm8 := hn8.lt
            have HK8 := Lib.hid hk8
            have HN8 := Lib.hid hn8
            clear g8 hb8 hk8 hn8 HK7 HN7 HPB
            go_wp2_with fail
            have LK := HL.out.below HB8.out
            have LK' := HM.out.below HB8.out
            have S0 : ∀ W, Below w8.heap.size w8 W → KidsC W (· < w8.heap.size) A kids ∧ KidsC W (· < w8.heap.size) A' kids' := fun W hW => ⟨LK.ks.keep ⟨hW.size, fun g _ hg => hW.block g hg⟩, LK'.ks.keep ⟨hW.size, fun g _ hg => hW.block g hg⟩⟩
            have hAl : Below w8.heap.size w8 (w8.alloc (.cells #[] 36)).drew := ((Below.refl _ _).alloc (Nat.le_refl _) _).drew
            have hO0 : OwnK (w8.alloc (.cells #[] 36)).drew w8.heap.size (.slice (some ⟨w8.heap.size, 0, none⟩) 0 0) [] := ⟨World.ownsRow_lit (size := 4) w8 #[] 0 (Nat.le_refl _) (by decide) rfl, fun _ hx => by simp at hx⟩
            have hla1 : kids.length ≤ 500 := Nat.le_trans (kids_len kids) HSZa.out
            have hla2 : kids'.length ≤ 500 := Nat.le_trans (kids_len kids') HSZb.out
            have hc1 : ([] : List Tree).length + kids.length ≤ 1000000 := by simp; omega
            have hc2 : kids.length + kids'.length ≤ 1000000 := by omega
            have q4 := (PP.okB_inv HOKa.out).2.2.2
            have q8 := (PP.okB_inv HOKb.out).2.2.2
            have hokc : PP.okT (.node 47 0 [] (kids ++ kids')) 98 = true := PP.okB_mk (by rw [PP.okS_app, q4, q8]; rfl)
            have hszc : PP.sizeL (kids ++ kids') ≤ 999999 := by have h1 := HSZa.out; have h2 := HSZb.out; rw [PP.sizeL_app]; omega
            have hdpc : PP.depthL (kids ++ kids') ≤ 900 := PP.depthL_app _ _ _ (Nat.le_trans HDPa.out (by omega)) (Nat.le_trans HDPb.out (by omega))
            have hnmc : PP.nmL (kids ++ kids') = true := PP.nmL_app HNKa.out HNKb.out
            have hprc : PP.prB (.node 47 0 [] (kids ++ kids')) 0 = PP.prB (.node km num nm kids) 0 ++ PP.prB (.node km' num' nm' kids') 0 := PP.prL_app kids kids' 0
            have hcat : (⟨(PP.prB (.node km num nm kids) 0 ++ PP.prB (.node km' num' nm' kids') 0).toArray⟩ : ByteArray) = ⟨(PP.prB (.node km num nm kids) 0).toArray⟩ ++ ⟨(PP.prB (.node km' num' nm' kids') 0).toArray⟩ := by
              apply ByteArray.ext
              apply Array.ext'
              simp
            have hI := HK8.out
            have hJ := HN8.out
            have hP := hI
            have hQ := hJ
            have tok1 := True.intro
            go_region_held3 (fun V => (V.cell? ⟨w.heap.size, 3, none⟩ = some (.slice A kids.length c)) ∧ (V.cell? ⟨w.heap.size + 1, 3, none⟩ = some (.slice A' kids'.length c')))
              (with_reducible first | exact ⟨(Blk.below hI (Below.refl _ _).drew).four.1.2.2.2, (Blk.below hJ (Below.refl _ _).drew).four.1.2.2.2⟩ | exact ⟨(Blk.below hI hAl).four.1.2.2.2, (Blk.below hJ hAl).four.1.2.2.2⟩ | exact ⟨hP.four.1.2.2.2, hQ.four.1.2.2.2⟩)
              (first
                | (have _t := tok1; refine step_append_kids rfl _ _ rfl rfl hO0 rfl (S0 _ hAl).1 hAl.size rfl rfl hc1 ?_; intro v1 e1 wa hown1 hmap1 hba; replace hmap1 : e1.map NodeE.tree = kids := hmap1; replace hP := Blk.below hI (hAl.trans hba); replace hQ := Blk.below hJ (hAl.trans hba); have hAB := hAl.trans hba; clear tok1 _t)
                | (refine step_append_kids2 rfl _ _ rfl rfl hown1 hmap1 rfl (S0 _ hAB).2 hAB.size rfl hc2 ?_; intro A2 c2 wb hk2 hbb; replace hP := Blk.below hI (hAB.trans hbb); replace hQ := Blk.below hJ (hAB.trans hbb); replace hAB := hAB.trans hbb)
                | (go_at_call 22; refine (op14 47 _ _ _ _).mono ?_; rintro e wc ⟨rfl, hb9⟩; replace hk2 := hk2.keep (w' := wc) ⟨hb9.size, fun g _ hg => hb9.block g hg⟩; have hAC := hAB.trans (hb9.mono hAB.size); replace hP := Blk.below hI hAC; replace hQ := Blk.below hJ hAC)
                | (go_at_call 21; have LC := HL.out.below (HB8.out.trans (hAC.mono HB8.out.size)); have hx := printBlock_any (k := 47) (num := 0) (nm := []) (c := c2) (LArg.parg ⟨hk2.weak (fun _ _ hg => hg), LC.ops, LC.pow, LC.sg⟩ hszc hnmc) (by decide) hdpc; rw [show blockOut (.node 47 0 [] (kids ++ kids')) = (PP.prB (.node km num nm kids) 0 ++ PP.prB (.node km' num' nm' kids') 0, 0) from by unfold blockOut; rw [hokc, hprc]; rfl, List.length_append] at hx; rw [show ((PP.prB (.node km num nm kids) 0 ++ PP.prB (.node km' num' nm' kids') 0, (0 : Int)) : List UInt8 × Int).1 = PP.prB (.node km num nm kids) 0 ++ PP.prB (.node km' num' nm' kids') 0 from rfl, hcat] at hx; refine hx.mono ?_; clear hx LC; rintro e wd ⟨rfl, hb10⟩; have hAD := hAC.trans (hb10.mono hAC.size); replace hP := Blk.below hI hAD; replace hQ := Blk.below hJ hAD))
            have HB9 := Lib.hid (HB8.out.trans (hAD.mono HB8.out.size))
            have L9 := HL.out.below HB9.out
            have hfit := PP.prB_fits HOKa.out HLA.out
            have hzb : (PP.prB (.node km' num' nm' kids') 0).length ≤ 2000000 := by
              have h1 := (PP.prS_len (PP.sizeL kids')).2 kids' 0 (Nat.le_refl _) q8 (by have := HDPb.out; omega)
              have h2 := HSZb.out
              have h3 : PP.prB (.node km' num' nm' kids') 0 = PP.prL kids' 0 := rfl
              rw [h3]
              omega
            obtain ⟨m, hm⟩ := PP.back_block HOKa.out hfit HLA.out
            have hbk := block_at ⟨(PP.prB (.node km num nm kids) 0).toArray⟩ wd (by rw [size_mkB]; unfold maxLen; omega) L9.sg L9.ops (n := m) (q := _) (by rw [envOf_eqP, sigOf_eqP]; exact hm)
            rw [show PP.out PP.zeroT (⟨(PP.tokB (.node km num nm kids)).length, 0, 0⟩, .node km num nm kids) = (.node km num nm kids, 0, 0) from rfl] at hbk
            have HBK := Lib.hid hbk
            have hsa := size_mkB (PP.prB (.node km num nm kids) 0)
            have hsb := size_mkB (PP.prB (.node km' num' nm' kids') 0)
            have HK9 := Lib.hid hP
            have HN9 := Lib.hid hQ
            have HT1 := Lib.hid (show (Tree.node km num nm kids).size ≤ 1000000 from by have := HSZa.out; simp only [PP.Tree.size]; omega)
            clear hbk hm L9 hAD hAC hAB hAl hO0 hI hJ hP hQ hprc hokc hszc hdpc hnmc hcat S0 LK LK' q4 q8 hc1 hc2 hla1 hla2 hb9 hb10 hba hbb hk2 hown1 hmap1
            generalize (⟨(PP.prB (.node km num nm kids) 0).toArray⟩ : ByteArray) = TXA at *
            generalize (⟨(PP.prB (.node km' num' nm' kids') 0).toArray⟩ : ByteArray) = TXB at *
            have hnb : ¬ 9223372036854775807 < TXA.size + TXB.size := by omega
            go_wp2_with fail
            refine HBK.out.mono ?_
            rintro e w10 ⟨v, rfl, hN, hb10⟩
            have hNc := hN
            obtain ⟨mk, mnum, mnm, mA, mc, mkids, rfl, ht, hmk⟩ := hN
            have hb11 : Below w10.heap.size w10 (w10.alloc (.cells #[.int .u8 (mk : Int), .int .i64 mnum, .string ⟨mnm.toArray⟩, .slice mA mkids.length mc] 36)) := (Below.refl _ _).alloc (Nat.le_refl _) _
            have g10 := HB9.out.trans (hb10.mono HB9.out.size)
            have g11 := g10.trans (hb11.mono g10.size)
            have HB11 := Lib.hid g11
            have hk10 := Blk.below HK9.out hb10
            clear x0 x1 x2 x3 y0 y1 y2 y3 hl8 hm8
            obtain ⟨x0, x1, x2, x3⟩ := hk10.four.1
            have hl10 := hk10.lt
            have hN1 : NodeV (w10.alloc (.cells #[.int .u8 (mk : Int), .int .i64 mnum, .string ⟨mnm.toArray⟩, .slice mA mkids.length mc] 36)) (· < (w10.alloc (.cells #[.int .u8 (mk : Int), .int .i64 mnum, .string ⟨mnm.toArray⟩, .slice mA mkids.length mc] 36)).heap.size) (.agg #[.int .u8 (km : Int), .int .i64 num, .string ⟨nm.toArray⟩, .slice A kids.length c]) (.node km num nm kids) := ⟨km, num, nm, A, c, kids, rfl, rfl, (HL.out.below g11).ks⟩
            have hN2 := hNc.keep (w' := w10.alloc (.cells #[.int .u8 (mk : Int), .int .i64 mnum, .string ⟨mnm.toArray⟩, .slice mA mkids.length mc] 36)) ⟨hb11.size, fun g _ hg => hb11.block g hg⟩
            have hE := equal_any hN2 hN1 HT1.out
            rw [PP.eqT_refl] at hE
            have HE := Lib.hid hE
            clear hb10 hNc ht hmk hb11 g10 g11 hk10 hN1 hN2 hE HBK HK9 HN9 hfit hzb
            go_wp2_with fail
            refine HE.out.mono ?_
            rintro e w12 ⟨rfl, hb12⟩
            have HB12 := Lib.hid (HB11.out.trans (hb12.mono HB11.out.size))
            clear hb12 x0 x1 x2 x3 hl10
            go_wp2_with fail
            go_ret
            exact ⟨rfl, HB12.out⟩
    · rw [show decide (PP.cntT (.node km' num' nm' kids') 20 ≤ 500) = false from by simpa using hc] at hsm
      have HSM := Lib.hid hsm
      clear hsm hc
      go_wp2_with fail
      refine HSM.out.mono ?_
      rintro e w3 ⟨rfl, hb3⟩
      have HB3 := Lib.hid (HB2.out.trans (hb3.mono HB2.out.size))
      clear hb3 HSM
      go_wp2_with fail
      go_ret
      exact ⟨rfl, HB3.out⟩
  · rw [show decide (PP.cntT (.node km num nm kids) 20 ≤ 500) = false from by simpa using hc] at hsm
    have HSM := Lib.hid hsm
    clear hsm hc
    go_wp2_with fail
    refine HSM.out.mono ?_
    rintro e w2 ⟨rfl, hb2⟩
    have HB2 := Lib.hid (HB1.out.trans (hb2.mono HB1.out.size))
    clear hb2 HSM
    go_wp2_with fail
    go_ret
    exact ⟨rfl, HB2.out⟩
end
end Go.Proofs.YtfakdbnfpdalhaaGreatDoor
