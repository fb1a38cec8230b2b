/- The contract of ast.isValid, for every tree. -/
import Derived.Test.YtkeehpgnljieeaaDoorValB
namespace Go.Proofs.YtkeehpgnljieeaaDoor
open Go.RowKit Go.Maps
open PP (Tree)
def KidRel (kids : List Tree) (cs : List UInt8) (w : World) (i : Value) (wr : World) : Prop := ∃ j : Nat, j ≤ kids.length ∧ i = .int .i64 (j : Int) ∧ (∀ l t c, l < j → kids[l]? = some t → cs[l]? = some c → PP.okT t c.toNat = true) ∧ Below w.heap.size w wr
section
set_option maxHeartbeats 4000000
set_option maxRecDepth 100000
theorem isValid_upto (n : Nat) : ∀ (kids : List Tree), PP.sizeL kids ≤ n → ∀ (W : World) (Z : Nat → Prop) (A : Option Addr), KidsC W Z A kids → SignsIs W → ∀ (k : Nat) (num : Int) (nm : List UInt8) (c cat : Nat), nm.length ≤ 65536 → PP.nmL kids = true → CatOk cat → n ≤ 1000000 →
    Calls Tryd.prog 13 #[.agg #[.int .u8 (k : Int), .int .i64 num, .string ⟨nm.toArray⟩, .slice A kids.length c], .int .u8 (cat : Int)] W fun e w' => e = .returned (.bool (PP.okT (.node k num nm kids) cat)) ∧ Below W.heap.size W w' := by
  induction n using Nat.strongRecOn with
  | ind n ih =>
    intro kids hs W Z A h hg k num nm c cat hnm hnk hcat hn
    have hlen := PP.len_sizeL kids
    have hnot : ∀ (x : Bool) (w : World), (Op.unary .not (.bool x)).run Tryd.prog w = .ok (.bool (!x)) w := fun _ _ => rfl
    have hb0 : Below W.heap.size W (W.alloc (.cells #[.int .u8 (k : Int), .int .i64 num, .string ⟨nm.toArray⟩, .slice A kids.length c] 24)) := (Below.refl _ _).alloc (Nat.le_refl _) _
    have hkid : ∀ (i : Nat) k1 num1 nm1 A1 c1 ks1, kids[i]? = some (Tree.node k1 num1 nm1 ks1) → KidsC W Z A1 ks1 → ∀ (cat1 : Nat), CatOk cat1 → ∀ W3, Below W.heap.size W W3 →
        Calls Tryd.prog 13 #[.agg #[.int .u8 ((k1 : Nat) : Int), .int .i64 num1, .string ⟨(nm1 : List UInt8).toArray⟩, .slice A1 (ks1 : List Tree).length c1], .int .u8 (cat1 : Int)] W3 fun e w' => e = .returned (.bool (PP.okT (.node k1 num1 nm1 ks1) cat1)) ∧ Below W3.heap.size W3 w' := by
      intro i k1 num1 nm1 A1 c1 ks1 hi hk1 cat1 hc1 W3 hb3
      have hm := PP.size_mem (List.mem_of_getElem? hi)
      simp only [PP.Tree.size] at hm
      have hnn := PP.nmL_at hnk hi
      simp only [PP.nmT, Bool.and_eq_true, decide_eq_true_iff] at hnn
      exact ih (PP.sizeL ks1) (by omega) ks1 (Nat.le_refl _) W3 Z A1 (hk1.keep ⟨hb3.size, fun g _ hg => hb3.block g hg⟩) (hg.below hb3 hg.pos) k1 num1 nm1 c1 cat1 hnn.1 hnn.2 hc1 (by omega)
    have HKID := Lib.hid hkid
    have hcon := containsNode_of (c := c) (h.keep ((Keep.refl Z W).alloc (.cells #[.int .u8 (k : Int), .int .i64 num, .string ⟨nm.toArray⟩, .slice A kids.length c] 24))) (by omega) (fun i k1 num1 nm1 A1 c1 ks1 hi hk1 W3 hb3 => by
      have hm := PP.size_mem (List.mem_of_getElem? hi)
      simp only [PP.Tree.size] at hm
      have hnn := PP.nmL_at hnk hi
      simp only [PP.nmT, Bool.and_eq_true, decide_eq_true_iff] at hnn
      have hb4 := hb0.trans (hb3.mono hb0.size)
      exact ih (PP.sizeL ks1) (by omega) ks1 (Nat.le_refl _) W3 Z A1 (hk1.keep ⟨hb3.size, fun g _ hg => hb3.block g hg⟩) (hg.below hb4 hg.pos) k1 num1 nm1 c1 115 hnn.1 hnn.2 (by unfold CatOk; omega) (by omega))
    have HCON := Lib.hid hcon
    have HB0 := Lib.hid hb0
    have HG := Lib.hid hg
    have HH := Lib.hid h
    have HCAT := Lib.hid hcat
    have heq : PP.okT (.node k num nm kids) cat = (PP.belongs k cat && (if k = 47 then num == 0 && nm == [] && PP.okS kids
      else !(decide (num < (PP.formOf k).low) || decide ((PP.formOf k).high < num) || !(kids.length == (PP.formOf k).kids.length)) && (if (PP.formOf k).name then PL.isName nm else nm == []) && PP.okZ kids (PP.formOf k).kids)) := by simp only [PP.okT]
    generalize PP.okT (.node k num nm kids) cat = R at *
    have hbe := belongs_any k cat (W.alloc (.cells #[.int .u8 (k : Int), .int .i64 num, .string ⟨nm.toArray⟩, .slice A kids.length c] 24)) hcat
    clear h hkid hcon hb0 hg ih hcat hnk
    cases hbl : PP.belongs k cat with
    | false =>
      rw [hbl] at hbe heq
      have HBE := Lib.hid hbe
      have HR := Lib.hid (show R = false by rw [heq]; rfl)
      clear heq hbl hbe
      go_enter Tryd.func13, Tryd.ntmps13
      go_wp2_with fail
      refine HBE.out.mono ?_
      rintro e w1 ⟨rfl, rfl⟩
      go_wp2_with fail
      go_ret
      exact ⟨by rw [HR.out]; rfl, HB0.out⟩
    | true =>
      rw [hbl, Bool.true_and] at heq
      rw [hbl] at hbe
      have HBE := Lib.hid hbe
      clear hbl hbe
      by_cases h47 : k = 47
      · subst h47
        rw [if_pos rfl] at heq
        cases e1 : (num == 0) with
        | false =>
          have HR := Lib.hid (show R = false by rw [heq, e1]; rfl)
          clear heq
          go_enter Tryd.func13, Tryd.ntmps13
          go_wp2_with fail
          refine HBE.out.mono ?_
          rintro e w1 ⟨rfl, rfl⟩
          go_wp2_with fail
          go_ret
          exact ⟨by rw [HR.out]; rfl, HB0.out⟩
        | true =>
          cases e2 : (nm == []) with
          | false =>
            have HR := Lib.hid (show R = false by rw [heq, e1, e2]; rfl)
            have e3 : ¬ nm = [] := by simpa using e2
            clear heq
            go_enter Tryd.func13, Tryd.ntmps13
            go_wp2_with fail
            refine HBE.out.mono ?_
            rintro e w1 ⟨rfl, rfl⟩
            go_wp2_with fail
            go_ret
            exact ⟨by rw [HR.out]; rfl, HB0.out⟩
          | true =>
            have HR := Lib.hid (show R = PP.okS kids by rw [heq, e1, e2]; rfl)
            obtain rfl : nm = [] := by simpa using e2
            clear heq
            go_enter Tryd.func13, Tryd.ntmps13
            go_wp2_with fail
            refine HBE.out.mono ?_
            rintro e w1 ⟨rfl, rfl⟩
            go_wp2_with fail
            refine HCON.out.mono ?_
            rintro e w2 ⟨rfl, hb2⟩
            have HB2 := Lib.hid (HB0.out.trans (hb2.mono HB0.out.size))
            clear hb2
            go_wp2_with fail
            go_ret
            exact ⟨by rw [HR.out]; simp, HB2.out⟩
      · rw [if_neg h47] at heq
        have e47 : ((k : Int) == 47) = false := by simp; omega
        obtain ⟨hcl, hcc⟩ := PP.formOf_cats k
        have HFO := Lib.hid (formOf_any k (W.alloc (.cells #[.int .u8 (k : Int), .int .i64 num, .string ⟨nm.toArray⟩, .slice A kids.length c] 24)))
        obtain ⟨⟨fnm, lo, hi, cs⟩, hF⟩ : ∃ f, PP.formOf k = f := ⟨_, rfl⟩
        rw [hF] at heq hcl hcc HFO
        have hcc' : ∀ c ∈ cs, CatOk c.toNat := hcc
        have hcl' : cs.length ≤ 3 := hcl
        have HCC := Lib.hid hcc'
        have HEQ := Lib.hid (show R = (!(decide (num < lo) || decide (hi < num) || !(kids.length == cs.length)) && (if fnm = true then PL.isName nm else nm == []) && PP.okZ kids cs) from heq)
        have HFO' := Lib.hid (show Calls Tryd.prog 27 #[.int .u8 (k : Int)] (W.alloc (.cells #[.int .u8 (k : Int), .int .i64 num, .string ⟨nm.toArray⟩, .slice A kids.length c] 24)) fun e w' => e = .returned (.agg #[.bool fnm, .int .i64 lo, .int .i64 hi, .string ⟨cs.toArray⟩]) ∧ Below (W.alloc (.cells #[.int .u8 (k : Int), .int .i64 num, .string ⟨nm.toArray⟩, .slice A kids.length c] 24)).heap.size (W.alloc (.cells #[.int .u8 (k : Int), .int .i64 num, .string ⟨nm.toArray⟩, .slice A kids.length c] 24)) w' from HFO.out)
        have hcsz : (⟨cs.toArray⟩ : ByteArray).size = cs.length := by show cs.toArray.size = _; simp
        clear heq hcl hcc hcc' HFO hF h47
        go_enter Tryd.func13, Tryd.ntmps13
        go_wp2_with fail
        refine HBE.out.mono ?_
        rintro e w1 ⟨rfl, rfl⟩
        go_wp2_with fail
        refine HFO'.out.mono ?_
        rintro e w2 ⟨rfl, hb2⟩
        have kn : Blk w2 W.heap.size 24 #[.int .u8 (k : Int), .int .i64 num, .string ⟨nm.toArray⟩, .slice A kids.length c] := (hb2.block _ (by simp)).trans (Blk.new _ _ _)
        obtain ⟨⟨n0, n1, n2, n3⟩, _, _, _, _⟩ := kn.four
        have kl0 := kn.lt
        have KN := Lib.hid kn
        have hbW2 := HB0.out.trans (hb2.mono HB0.out.size)
        have HB2 := Lib.hid hbW2
        have HB3 := Lib.hid (hbW2.alloc hbW2.size (.cells #[.bool fnm, .int .i64 lo, .int .i64 hi, .string ⟨cs.toArray⟩] 53))
        have KF := Lib.hid (Blk.new w2 53 #[.bool fnm, .int .i64 lo, .int .i64 hi, .string ⟨cs.toArray⟩])
        clear hb2 hbW2 kn HFO' HBE
        by_cases c1 : num < lo
        · have x1 : decide (num < lo) = true := by simpa using c1
          go_wp2_with fail
          go_ret
          exact ⟨by rw [HEQ.out, x1]; rfl, HB3.out⟩
        have x1 : decide (num < lo) = false := by simpa using c1
        by_cases c2 : hi < num
        · have x2 : decide (hi < num) = true := by simpa using c2
          go_wp2_with fail
          go_ret
          exact ⟨by rw [HEQ.out, x2]; simp, HB3.out⟩
        have x2 : decide (hi < num) = false := by simpa using c2
        by_cases hl : ¬ kids.length = cs.length
        · have x3 : ((kids.length : Int) != (cs.length : Int)) = true := by simp; omega
          have x4 : (kids.length != cs.length) = true := by simpa using hl
          have x5 : (kids.length == cs.length) = false := by simpa using hl
          have HX5 := Lib.hid x5
          clear x5
          go_wp2_with fail
          go_ret
          exact ⟨by rw [HEQ.out, HX5.out]; simp, HB3.out⟩
        rw [Decidable.not_not] at hl
        have x3 : ((kids.length : Int) != (cs.length : Int)) = false := by simp; omega
        have x4 : (kids.length != cs.length) = false := by simpa using hl
        have x5 : (kids.length == cs.length) = true := by simpa using hl
        have HEQ2 := Lib.hid (show R = ((if fnm = true then PL.isName nm else nm == []) && PP.okZ kids cs) by rw [HEQ.out, x1, x2, x5]; simp)
        have HL := Lib.hid hl
        clear x5 HEQ hl
        have HNA := Lib.hid (name_any ⟨nm.toArray⟩ (w2.alloc (.cells #[.bool fnm, .int .i64 lo, .int .i64 hi, .string ⟨cs.toArray⟩] 53)) (HG.out.below HB3.out HG.out.pos) (by show nm.toArray.size ≤ maxLen; rw [List.size_toArray]; unfold maxLen; omega))
        cases fnm with
        | true =>
          cases hin : PL.isName nm with
          | false =>
            have HC := Lib.hid (show Calls _ _ _ _ (fun e w' => e = .returned (.bool false) ∧ Below _ _ w') by have := HNA.out; rw [show PL.isName (⟨nm.toArray⟩ : ByteArray).data.toList = false from hin] at this; exact this)
            have HR := Lib.hid (show R = false by rw [HEQ2.out, hin]; rfl)
            go_wp2_with fail
            refine HC.out.mono ?_
            rintro e w4 ⟨rfl, hb4⟩
            have HB4 := Lib.hid (HB3.out.trans (hb4.mono HB3.out.size))
            have f0 : w4.cell? ⟨w2.heap.size, 0, none⟩ = some (.bool true) := Blk.cell (w := w4) (t := 53) (cs := #[.bool true, .int .i64 lo, .int .i64 hi, .string ⟨cs.toArray⟩]) ((hb4.block _ (by simp)).trans KF.out) 0
            have hl4 := hb4.size
            clear hb4
            go_wp2_with fail
            go_ret
            exact ⟨by rw [HR.out]; rfl, HB4.out⟩
          | true =>
            have HC := Lib.hid (show Calls _ _ _ _ (fun e w' => e = .returned (.bool true) ∧ Below _ _ w') by have := HNA.out; rw [show PL.isName (⟨nm.toArray⟩ : ByteArray).data.toList = true from hin] at this; exact this)
            have HR := Lib.hid (show R = PP.okZ kids cs by rw [HEQ2.out, hin]; rfl)
            go_wp2_with fail
            refine HC.out.mono ?_
            rintro e w4 ⟨rfl, hb4⟩
            have kf4 : Blk w4 w2.heap.size 53 #[.bool true, .int .i64 lo, .int .i64 hi, .string ⟨cs.toArray⟩] := (hb4.block _ (by simp)).trans KF.out
            have kn4 : Blk w4 W.heap.size 24 #[.int .u8 (k : Int), .int .i64 num, .string ⟨nm.toArray⟩, .slice A kids.length c] := (hb4.block _ (by simp; omega)).trans (KN.out.alloc _)
            have HB4 := Lib.hid (HB3.out.trans (hb4.mono HB3.out.size))
            have hl4 := hb4.size
            obtain ⟨f0, f1, f2, f3⟩ := kf4.four.1
            obtain ⟨m0, m1, m2, m3⟩ := kn4.four.1
            have hkl := kf4.lt
            have hnl := kn4.lt
            clear hb4 n0 n1 n2 n3
            go_wp2_with fail
            go_loopw [75] (fun i wr => KidRel kids cs w4 i wr) (fun i _ => kids.length - (intOf i).toNat)
            case atStart => exact ⟨0, Nat.zero_le _, rfl, fun l _ _ h => by omega, Below.refl _ _⟩
            case round =>
              obtain ⟨j, hj, rfl, hall, hbr⟩ := hrel
              have hsz := hbr.size
              by_cases hlt : j < kids.length
              · have hne : kids ≠ [] := by intro e; rw [e] at hlt; simp at hlt
                obtain ⟨g, o, rfl, _, hg, hat⟩ := HH.out.at_ hne
                obtain ⟨k1, num1, nm1, A1, c1, ks1, ht, ⟨x0, x1, x2, x3⟩, hk1⟩ := hat j _ (List.getElem?_eq_getElem hlt)
                have hkj : kids[j]? = some (.node k1 num1 nm1 ks1) := by rw [List.getElem?_eq_getElem hlt, ht]
                have hbW := HB4.out.trans (hbr.mono HB4.out.size)
                have d0 := (hbW.cell (p := ⟨g, o + j * 4, none⟩) hg).trans x0
                have d1 := (hbW.cell (p := ⟨g, o + j * 4 + 1, none⟩) hg).trans x1
                have d2 := (hbW.cell (p := ⟨g, o + j * 4 + 2, none⟩) hg).trans x2
                have d3 := (hbW.cell (p := ⟨g, o + j * 4 + 3, none⟩) hg).trans x3
                have hgv : g < wr.heap.size := Nat.lt_of_lt_of_le hg hbW.size
                have hjc : j < cs.length := by rw [← HL.out]; exact hlt
                obtain ⟨cj, hcj⟩ : ∃ cj, cs[j]? = some cj := ⟨_, List.getElem?_eq_getElem hjc⟩
                have hcall := fun W3 (hb3 : Below wr.heap.size wr W3) => HKID.out j k1 num1 nm1 A1 c1 ks1 hkj hk1 cj.toNat (HCC.out cj (List.mem_of_getElem? hcj)) W3 (hbW.trans (hb3.mono hbW.size))
                have hgood : PP.okT (.node k1 num1 nm1 ks1) cj.toNat = true → ∀ l t c, l < j + 1 → kids[l]? = some t → cs[l]? = some c → PP.okT t c.toNat = true := by
                  intro he l t c hll h1 h2
                  rcases Nat.lt_or_ge l j with h | h
                  · exact hall l t c h h1 h2
                  · obtain rfl : l = j := by omega
                    rw [hkj] at h1; rw [hcj] at h2
                    injection h1 with h1; injection h2 with h2
                    subst h1 h2; exact he
                have hbad : PP.okT (.node k1 num1 nm1 ks1) cj.toNat = false → PP.okZ kids cs = false := PP.okZ_bad kids cs j _ _ hkj hcj
                have HGOOD := Lib.hid hgood
                have HBAD := Lib.hid hbad
                have p1 : (0 : Int) ≤ (j : Int) := by omega
                have p2 : (j : Int) < (kids.length : Int) := by omega
                have p3 : (j : Int) < ((⟨cs.toArray⟩ : ByteArray).size : Int) := by rw [hcsz]; omega
                have p4 : (⟨cs.toArray⟩ : ByteArray).data[j]? = some cj := by simpa using hcj
                have p5 : (⟨cs.toArray⟩ : ByteArray)[j]'(by rw [hcsz]; exact hjc) = cj := by show cs.toArray[j] = cj; simpa using (List.getElem?_eq_some_iff.1 hcj).2
                have f3r := (hbr.cell (p := ⟨w2.heap.size, 3, none⟩) hkl).trans f3
                have hkr : w2.heap.size < wr.heap.size := Nat.lt_of_lt_of_le hkl hbr.size
                have HB6 := Lib.hid (show Below wr.heap.size wr (wr.alloc (.cells #[.int .u8 (k1 : Int), .int .i64 num1, .string ⟨nm1.toArray⟩, .slice A1 ks1.length c1] 24)) from (Below.refl _ _).alloc (Nat.le_refl _) _)
                have KK := Lib.hid (Blk.new wr 24 #[.int .u8 (k1 : Int), .int .i64 num1, .string ⟨nm1.toArray⟩, .slice A1 ks1.length c1])
                have F3 := Lib.hid (show (wr.alloc (.cells #[.int .u8 (k1 : Int), .int .i64 num1, .string ⟨nm1.toArray⟩, .slice A1 ks1.length c1] 24)).cell? ⟨w2.heap.size, 3, none⟩ = some (.string ⟨cs.toArray⟩) from (World.cell?_alloc_past _ _ _ hkr).trans f3r)
                have KKd := Lib.hid (show Blk (wr.alloc (.cells #[.int .u8 (k1 : Int), .int .i64 num1, .string ⟨nm1.toArray⟩, .slice A1 ks1.length c1] 24)).drew wr.heap.size 24 #[.int .u8 (k1 : Int), .int .i64 num1, .string ⟨nm1.toArray⟩, .slice A1 ks1.length c1] from KK.out)
                have F3d := Lib.hid (show (wr.alloc (.cells #[.int .u8 (k1 : Int), .int .i64 num1, .string ⟨nm1.toArray⟩, .slice A1 ks1.length c1] 24)).drew.cell? ⟨w2.heap.size, 3, none⟩ = some (.string ⟨cs.toArray⟩) from F3.out)
                have HLTd := Lib.hid (show w2.heap.size < (wr.alloc (.cells #[.int .u8 (k1 : Int), .int .i64 num1, .string ⟨nm1.toArray⟩, .slice A1 ks1.length c1] 24)).drew.heap.size from Nat.lt_of_lt_of_le hkr HB6.out.size)
                clear hgood hbad hall hkj hk1 hat ht x0 x1 x2 x3 hne f0 f1 f2 f3 m0 m1 m2 m3
                generalize (⟨cs.toArray⟩ : ByteArray) = S at *
                cases he : PP.okT (.node k1 num1 nm1 ks1) cj.toNat with
                | true =>
                  rw [he] at hcall
                  have HC := Lib.hid (hcall _ HB6.out)
                  have HCd := Lib.hid (hcall _ HB6.out.drew)
                  have HE2 := Lib.hid he
                  clear hcall he
                  go_wp2_with fail
                  generalize wr.alloc (.cells #[.int .u8 (k1 : Int), .int .i64 num1, .string ⟨nm1.toArray⟩, .slice A1 ks1.length c1] 24) = w6 at *
                  go_region_held3 (fun W => (W.cell? ⟨wr.heap.size, 0, none⟩ = some (.int .u8 (k1 : Int)) ∧ W.cell? ⟨wr.heap.size, 1, none⟩ = some (.int .i64 num1) ∧ W.cell? ⟨wr.heap.size, 2, none⟩ = some (.string ⟨nm1.toArray⟩) ∧ W.cell? ⟨wr.heap.size, 3, none⟩ = some (.slice A1 ks1.length c1)) ∧ W.cell? ⟨w2.heap.size, 3, none⟩ = some (.string S))
                   (with_reducible first | exact ⟨KK.out.four.1, F3.out⟩ | exact ⟨KKd.out.four.1, F3d.out⟩ | exact ⟨(Blk.below KKd.out hb7).four.1, (hb7.cell (p := ⟨w2.heap.size, 3, none⟩) HLTd.out).trans F3d.out⟩)
                   (first | (go_at_call 13; (first | (with_reducible refine HC.out.mono ?_) | (with_reducible refine HCd.out.mono ?_)); rintro e w7 ⟨rfl, hb7⟩))
                  go_wp2_with fail
                  go_roundw
                  case rel => exact ⟨j + 1, by omega, by go_num, HGOOD.out HE2.out, hbr.trans ((HB6.out.drew.trans (hb7.mono HB6.out.drew.size)).mono hsz)⟩
                  case measure => simp [intOf]; omega
                | false =>
                  rw [he] at hcall
                  have HC := Lib.hid (hcall _ HB6.out)
                  have HCd := Lib.hid (hcall _ HB6.out.drew)
                  have HE2 := Lib.hid (HBAD.out he)
                  clear hcall he
                  go_wp2_with fail
                  generalize wr.alloc (.cells #[.int .u8 (k1 : Int), .int .i64 num1, .string ⟨nm1.toArray⟩, .slice A1 ks1.length c1] 24) = w6 at *
                  go_region_held3 (fun W => (W.cell? ⟨wr.heap.size, 0, none⟩ = some (.int .u8 (k1 : Int)) ∧ W.cell? ⟨wr.heap.size, 1, none⟩ = some (.int .i64 num1) ∧ W.cell? ⟨wr.heap.size, 2, none⟩ = some (.string ⟨nm1.toArray⟩) ∧ W.cell? ⟨wr.heap.size, 3, none⟩ = some (.slice A1 ks1.length c1)) ∧ W.cell? ⟨w2.heap.size, 3, none⟩ = some (.string S))
                   (with_reducible first | exact ⟨KK.out.four.1, F3.out⟩ | exact ⟨KKd.out.four.1, F3d.out⟩ | exact ⟨(Blk.below KKd.out hb7).four.1, (hb7.cell (p := ⟨w2.heap.size, 3, none⟩) HLTd.out).trans F3d.out⟩)
                   (first | (go_at_call 13; (first | (with_reducible refine HC.out.mono ?_) | (with_reducible refine HCd.out.mono ?_)); rintro e w7 ⟨rfl, hb7⟩))
                  go_wp2_with fail
                  go_ret
                  exact ⟨by rw [HR.out, HE2.out]; rfl, HB4.out.trans ((hbr.trans ((HB6.out.drew.trans (hb7.mono HB6.out.drew.size)).mono hsz)).mono HB4.out.size)⟩
              · have HOK := Lib.hid (PP.okZ_at kids cs (fun i t c h1 h2 => hall i t c (by have := (List.getElem?_eq_some_iff.1 h1).1; omega) h1 h2))
                clear hall
                go_wp2_with fail
                go_ret
                exact ⟨by rw [HR.out, HOK.out]; rfl, HB4.out.trans (hbr.mono HB4.out.size)⟩
        | false =>
          cases hin : (nm == []) with
          | false =>
            have HR := Lib.hid (show R = false by rw [HEQ2.out, hin]; rfl)
            have e3 : ¬ nm = [] := by simpa using hin
            go_wp2_with fail
            go_ret
            exact ⟨by rw [HR.out]; rfl, HB3.out⟩
          | true =>
            have HR := Lib.hid (show R = PP.okZ kids cs by rw [HEQ2.out, hin]; rfl)
            obtain rfl : nm = [] := by simpa using hin
            go_wp2_with fail
            generalize hw4 : w2.alloc (.cells #[.bool false, .int .i64 lo, .int .i64 hi, .string ⟨cs.toArray⟩] 53) = w4
            have hb4 : Below (w2.alloc (.cells #[.bool false, .int .i64 lo, .int .i64 hi, .string ⟨cs.toArray⟩] 53)).heap.size (w2.alloc (.cells #[.bool false, .int .i64 lo, .int .i64 hi, .string ⟨cs.toArray⟩] 53)) w4 := by rw [hw4]; exact Below.refl _ _
            have kf4 : Blk w4 w2.heap.size 53 #[.bool false, .int .i64 lo, .int .i64 hi, .string ⟨cs.toArray⟩] := (hb4.block _ (by simp)).trans KF.out
            have kn4 : Blk w4 W.heap.size 24 #[.int .u8 (k : Int), .int .i64 num, .string ⟨#[]⟩, .slice A kids.length c] := (hb4.block _ (by simp; omega)).trans (KN.out.alloc _)
            have HB4 := Lib.hid (HB3.out.trans (hb4.mono HB3.out.size))
            have hl4 := hb4.size
            have HW4 := Lib.hid hw4
            clear hw4
            obtain ⟨f0, f1, f2, f3⟩ := kf4.four.1
            obtain ⟨m0, m1, m2, m3⟩ := kn4.four.1
            have hkl := kf4.lt
            have hnl := kn4.lt
            clear hb4 n0 n1 n2 n3
            go_loopw [75] (fun i wr => KidRel kids cs w4 i wr) (fun i _ => kids.length - (intOf i).toNat)
            case atStart => exact ⟨0, Nat.zero_le _, rfl, fun l _ _ h => by omega, Below.refl _ _⟩
            case round =>
              obtain ⟨j, hj, rfl, hall, hbr⟩ := hrel
              have hsz := hbr.size
              by_cases hlt : j < kids.length
              · have hne : kids ≠ [] := by intro e; rw [e] at hlt; simp at hlt
                obtain ⟨g, o, rfl, _, hg, hat⟩ := HH.out.at_ hne
                obtain ⟨k1, num1, nm1, A1, c1, ks1, ht, ⟨x0, x1, x2, x3⟩, hk1⟩ := hat j _ (List.getElem?_eq_getElem hlt)
                have hkj : kids[j]? = some (.node k1 num1 nm1 ks1) := by rw [List.getElem?_eq_getElem hlt, ht]
                have hbW := HB4.out.trans (hbr.mono HB4.out.size)
                have d0 := (hbW.cell (p := ⟨g, o + j * 4, none⟩) hg).trans x0
                have d1 := (hbW.cell (p := ⟨g, o + j * 4 + 1, none⟩) hg).trans x1
                have d2 := (hbW.cell (p := ⟨g, o + j * 4 + 2, none⟩) hg).trans x2
                have d3 := (hbW.cell (p := ⟨g, o + j * 4 + 3, none⟩) hg).trans x3
                have hgv : g < wr.heap.size := Nat.lt_of_lt_of_le hg hbW.size
                have hjc : j < cs.length := by rw [← HL.out]; exact hlt
                obtain ⟨cj, hcj⟩ : ∃ cj, cs[j]? = some cj := ⟨_, List.getElem?_eq_getElem hjc⟩
                have hcall := fun W3 (hb3 : Below wr.heap.size wr W3) => HKID.out j k1 num1 nm1 A1 c1 ks1 hkj hk1 cj.toNat (HCC.out cj (List.mem_of_getElem? hcj)) W3 (hbW.trans (hb3.mono hbW.size))
                have hgood : PP.okT (.node k1 num1 nm1 ks1) cj.toNat = true → ∀ l t c, l < j + 1 → kids[l]? = some t → cs[l]? = some c → PP.okT t c.toNat = true := by
                  intro he l t c hll h1 h2
                  rcases Nat.lt_or_ge l j with h | h
                  · exact hall l t c h h1 h2
                  · obtain rfl : l = j := by omega
                    rw [hkj] at h1; rw [hcj] at h2
                    injection h1 with h1; injection h2 with h2
                    subst h1 h2; exact he
                have hbad : PP.okT (.node k1 num1 nm1 ks1) cj.toNat = false → PP.okZ kids cs = false := PP.okZ_bad kids cs j _ _ hkj hcj
                have HGOOD := Lib.hid hgood
                have HBAD := Lib.hid hbad
                have p1 : (0 : Int) ≤ (j : Int) := by omega
                have p2 : (j : Int) < (kids.length : Int) := by omega
                have p3 : (j : Int) < ((⟨cs.toArray⟩ : ByteArray).size : Int) := by rw [hcsz]; omega
                have p4 : (⟨cs.toArray⟩ : ByteArray).data[j]? = some cj := by simpa using hcj
                have p5 : (⟨cs.toArray⟩ : ByteArray)[j]'(by rw [hcsz]; exact hjc) = cj := by show cs.toArray[j] = cj; simpa using (List.getElem?_eq_some_iff.1 hcj).2
                have f3r := (hbr.cell (p := ⟨w2.heap.size, 3, none⟩) hkl).trans f3
                have hkr : w2.heap.size < wr.heap.size := Nat.lt_of_lt_of_le hkl hbr.size
                have HB6 := Lib.hid (show Below wr.heap.size wr (wr.alloc (.cells #[.int .u8 (k1 : Int), .int .i64 num1, .string ⟨nm1.toArray⟩, .slice A1 ks1.length c1] 24)) from (Below.refl _ _).alloc (Nat.le_refl _) _)
                have KK := Lib.hid (Blk.new wr 24 #[.int .u8 (k1 : Int), .int .i64 num1, .string ⟨nm1.toArray⟩, .slice A1 ks1.length c1])
                have F3 := Lib.hid (show (wr.alloc (.cells #[.int .u8 (k1 : Int), .int .i64 num1, .string ⟨nm1.toArray⟩, .slice A1 ks1.length c1] 24)).cell? ⟨w2.heap.size, 3, none⟩ = some (.string ⟨cs.toArray⟩) from (World.cell?_alloc_past _ _ _ hkr).trans f3r)
                have KKd := Lib.hid (show Blk (wr.alloc (.cells #[.int .u8 (k1 : Int), .int .i64 num1, .string ⟨nm1.toArray⟩, .slice A1 ks1.length c1] 24)).drew wr.heap.size 24 #[.int .u8 (k1 : Int), .int .i64 num1, .string ⟨nm1.toArray⟩, .slice A1 ks1.length c1] from KK.out)
                have F3d := Lib.hid (show (wr.alloc (.cells #[.int .u8 (k1 : Int), .int .i64 num1, .string ⟨nm1.toArray⟩, .slice A1 ks1.length c1] 24)).drew.cell? ⟨w2.heap.size, 3, none⟩ = some (.string ⟨cs.toArray⟩) from F3.out)
                have HLTd := Lib.hid (show w2.heap.size < (wr.alloc (.cells #[.int .u8 (k1 : Int), .int .i64 num1, .string ⟨nm1.toArray⟩, .slice A1 ks1.length c1] 24)).drew.heap.size from Nat.lt_of_lt_of_le hkr HB6.out.size)
                clear hgood hbad hall hkj hk1 hat ht x0 x1 x2 x3 hne f0 f1 f2 f3 m0 m1 m2 m3
                generalize (⟨cs.toArray⟩ : ByteArray) = S at *
                cases he : PP.okT (.node k1 num1 nm1 ks1) cj.toNat with
                | true =>
                  rw [he] at hcall
                  have HC := Lib.hid (hcall _ HB6.out)
                  have HCd := Lib.hid (hcall _ HB6.out.drew)
                  have HE2 := Lib.hid he
                  clear hcall he
                  go_wp2_with fail
                  generalize wr.alloc (.cells #[.int .u8 (k1 : Int), .int .i64 num1, .string ⟨nm1.toArray⟩, .slice A1 ks1.length c1] 24) = w6 at *
                  go_region_held3 (fun W => (W.cell? ⟨wr.heap.size, 0, none⟩ = some (.int .u8 (k1 : Int)) ∧ W.cell? ⟨wr.heap.size, 1, none⟩ = some (.int .i64 num1) ∧ W.cell? ⟨wr.heap.size, 2, none⟩ = some (.string ⟨nm1.toArray⟩) ∧ W.cell? ⟨wr.heap.size, 3, none⟩ = some (.slice A1 ks1.length c1)) ∧ W.cell? ⟨w2.heap.size, 3, none⟩ = some (.string S))
                   (with_reducible first | exact ⟨KK.out.four.1, F3.out⟩ | exact ⟨KKd.out.four.1, F3d.out⟩ | exact ⟨(Blk.below KKd.out hb7).four.1, (hb7.cell (p := ⟨w2.heap.size, 3, none⟩) HLTd.out).trans F3d.out⟩)
                   (first | (go_at_call 13; (first | (with_reducible refine HC.out.mono ?_) | (with_reducible refine HCd.out.mono ?_)); rintro e w7 ⟨rfl, hb7⟩))
                  go_wp2_with fail
                  go_roundw
                  case rel => exact ⟨j + 1, by omega, by go_num, HGOOD.out HE2.out, hbr.trans ((HB6.out.drew.trans (hb7.mono HB6.out.drew.size)).mono hsz)⟩
                  case measure => simp [intOf]; omega
                | false =>
                  rw [he] at hcall
                  have HC := Lib.hid (hcall _ HB6.out)
                  have HCd := Lib.hid (hcall _ HB6.out.drew)
                  have HE2 := Lib.hid (HBAD.out he)
                  clear hcall he
                  go_wp2_with fail
                  generalize wr.alloc (.cells #[.int .u8 (k1 : Int), .int .i64 num1, .string ⟨nm1.toArray⟩, .slice A1 ks1.length c1] 24) = w6 at *
                  go_region_held3 (fun W => (W.cell? ⟨wr.heap.size, 0, none⟩ = some (.int .u8 (k1 : Int)) ∧ W.cell? ⟨wr.heap.size, 1, none⟩ = some (.int .i64 num1) ∧ W.cell? ⟨wr.heap.size, 2, none⟩ = some (.string ⟨nm1.toArray⟩) ∧ W.cell? ⟨wr.heap.size, 3, none⟩ = some (.slice A1 ks1.length c1)) ∧ W.cell? ⟨w2.heap.size, 3, none⟩ = some (.string S))
                   (with_reducible first | exact ⟨KK.out.four.1, F3.out⟩ | exact ⟨KKd.out.four.1, F3d.out⟩ | exact ⟨(Blk.below KKd.out hb7).four.1, (hb7.cell (p := ⟨w2.heap.size, 3, none⟩) HLTd.out).trans F3d.out⟩)
                   (first | (go_at_call 13; (first | (with_reducible refine HC.out.mono ?_) | (with_reducible refine HCd.out.mono ?_)); rintro e w7 ⟨rfl, hb7⟩))
                  go_wp2_with fail
                  go_ret
                  exact ⟨by rw [HR.out, HE2.out]; rfl, HB4.out.trans ((hbr.trans ((HB6.out.drew.trans (hb7.mono HB6.out.drew.size)).mono hsz)).mono HB4.out.size)⟩
              · have HOK := Lib.hid (PP.okZ_at kids cs (fun i t c h1 h2 => hall i t c (by have := (List.getElem?_eq_some_iff.1 h1).1; omega) h1 h2))
                clear hall
                go_wp2_with fail
                go_ret
                exact ⟨by rw [HR.out, HOK.out]; rfl, HB4.out.trans (hbr.mono HB4.out.size)⟩
end
end Go.Proofs.YtkeehpgnljieeaaDoor
