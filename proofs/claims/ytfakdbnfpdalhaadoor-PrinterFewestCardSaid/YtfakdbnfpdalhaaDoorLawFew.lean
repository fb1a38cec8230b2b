/- The walk of PrinterFewest. -/
import Derived.Test.YtfakdbnfpdalhaaDoorLawParens14
import Derived.Test.YtfakdbnfpdalhaaDoorPlainFew
namespace Go.Proofs.YtfakdbnfpdalhaaDoor
open Go.RowKit
open PP (Tree)
theorem infoInt14 : (Tryd.prog.info? 3).map (fun i => (i.zero, i.size, i.bytes)) = some (some (.int .i64 0), 1, 8) := by kernel_rfl
theorem size_mk14 (l : List UInt8) : (⟨l.toArray⟩ : ByteArray).size = l.length := by simp [ByteArray.size]
/-- The offsets of the opening parentheses among the first bytes. -/
def opensK (s : ByteArray) (j : Nat) : List Nat := (List.range j).filter fun i => s.data.toList.getD i 0 == 40
theorem opensK_len (s : ByteArray) (j : Nat) : (opensK s j).length ≤ j := by
  unfold opensK
  have := List.length_filter_le (fun i => s.data.toList.getD i 0 == 40) (List.range j)
  simpa using this
theorem getD_at {s : ByteArray} {j : Nat} (h : j < s.size) : s.data.toList.getD j 0 = s[j]'h := by
  rw [List.getD_eq_getElem?_getD, List.getElem?_eq_getElem (by simpa using h)]; rfl
theorem byte_test {s : ByteArray} {j : Nat} (h : j < s.size) (c : UInt8) : (s.data.toList.getD j 0 == c) = (((s[j]'h).toNat : Int) == (c.toNat : Int)) := by
  rw [getD_at h, PL.byte_beq]
theorem opensK_yes {s : ByteArray} {j : Nat} (h : j < s.size) (hc : (((s[j]'h).toNat : Int) == 40) = true) : opensK s (j + 1) = opensK s j ++ [j] := by
  unfold opensK
  rw [List.range_succ, List.filter_append]
  congr 1
  have : (s.data.toList.getD j 0 == 40) = true := by rw [byte_test h]; exact hc
  simp only [List.filter_cons, this, List.filter_nil, if_true]
theorem opensK_no {s : ByteArray} {j : Nat} (h : j < s.size) (hc : (((s[j]'h).toNat : Int) == 40) = false) : opensK s (j + 1) = opensK s j := by
  unfold opensK
  rw [List.range_succ, List.filter_append]
  have : (s.data.toList.getD j 0 == 40) = false := by rw [byte_test h]; exact hc
  simp only [List.filter_cons, this, List.filter_nil, Bool.false_eq_true, if_false, List.append_nil]
theorem opensK_mem {s : ByteArray} {i : Nat} (h : i ∈ opensK s s.size) : ∃ h : i < s.size, ((s[i]'h).toNat : Int) = 40 := by
  unfold opensK at h
  rw [List.mem_filter, List.mem_range] at h
  refine ⟨h.1, ?_⟩
  have := h.2
  rw [byte_test h.1] at this
  simpa using this
def OpRel (s : ByteArray) (w5 : World) (v i : Value) (wr : World) : Prop := ∃ j : Nat, j ≤ s.size ∧ i = .int .i64 (j : Int) ∧ wr.ownsRow w5.heap.size 3 1 v (opensK s j).length ((opensK s j).map fun n : Nat => Value.int .i64 (n : Int)) ∧ Below w5.heap.size w5 wr
namespace PP
theorem bal_take_succ {l : List UInt8} {j : Nat} (h : j < l.length) : bal (l.take (j + 1)) = bal (l.take j) + bl1 l[j] := by
  rw [List.take_succ_eq_append_getElem h, bal_app]; simp [bal]
theorem bal_bd : ∀ (l : List UInt8), -(l.length : Int) ≤ bal l ∧ bal l ≤ l.length
  | [] => by simp [bal]
  | c :: l => by
    have := bal_bd l
    simp only [bal, List.length_cons]
    have h1 : -1 ≤ bl1 c ∧ bl1 c ≤ 1 := by unfold bl1; split <;> (try split) <;> omega
    omega
theorem few_cut {l : List UInt8} {i j : Nat} (hij : i < j) (hj : j < l.length) (hi : l[i] = 40) : pc (l.take i ++ (l.take j).drop (i + 1) ++ l.drop (j + 1)) < pc l := by
  have h1 : l = l.take i ++ ([40] ++ (l.take j).drop (i + 1)) ++ l.drop j := by
    have e1 : l.take j = l.take i ++ (l.take j).drop i := by
      conv => lhs; rw [← List.take_append_drop i (l.take j)]
      rw [List.take_take, Nat.min_eq_left (by omega)]
    have e2 : (l.take j).drop i = [40] ++ (l.take j).drop (i + 1) := by
      rw [List.drop_eq_getElem_cons (by simp; omega)]
      simp [hi]
    rw [← e2, ← e1, List.take_append_drop]
  have h2 : pc (l.drop (j + 1)) ≤ pc (l.drop j) := by
    rw [List.drop_eq_getElem_cons hj]
    unfold pc
    rw [List.count_cons]; omega
  conv => rhs; rw [h1]
  simp only [pc_app]
  have : pc [40] = 1 := by decide
  omega
end PP
def DepRel (s : ByteArray) (i : Nat) (W : World) (d j : Value) (w' : World) : Prop := w' = W ∧ ∃ jj : Nat, i ≤ jj ∧ jj ≤ s.size ∧ j = .int .i64 (jj : Int) ∧ d = .int .i64 (PP.bal (s.data.toList.take jj) - PP.bal (s.data.toList.take i)) ∧ (jj = i ∨ 1 ≤ PP.bal (s.data.toList.take jj) - PP.bal (s.data.toList.take i))
theorem bal_step (s : ByteArray) {j : Nat} (h : j < s.size) : PP.bal (s.data.toList.take (j + 1)) = PP.bal (s.data.toList.take j) + PP.bl1 (s[j]'h) := by
  have hl : j < s.data.toList.length := by simpa using h
  rw [PP.bal_take_succ hl]; rfl
theorem bal_near (s : ByteArray) (j : Nat) (hj : j ≤ s.size) : -(j : Int) ≤ PP.bal (s.data.toList.take j) ∧ PP.bal (s.data.toList.take j) ≤ j := by
  have := PP.bal_bd (s.data.toList.take j)
  have hl : (s.data.toList.take j).length ≤ j := by simp; omega
  omega
theorem three_cut (s : ByteArray) (i j : Nat) : (s.extract 0 i ++ s.extract (i + 1) j ++ s.extract (j + 1) s.size).data.toList = s.data.toList.take i ++ (s.data.toList.take j).drop (i + 1) ++ s.data.toList.drop (j + 1) := by
  have e : ∀ a b : ByteArray, (a ++ b).data.toList = a.data.toList ++ b.data.toList := fun a b => by rw [ByteArray.data_append, Array.toList_append]
  rw [e, e, Lib.extract_data, Lib.extract_data, Lib.extract_data]
  have h3 : (s.data.toList.drop (j + 1)).take (s.size - (j + 1)) = s.data.toList.drop (j + 1) := List.take_of_length_le (by
    have : s.data.toList.length = s.size := Array.length_toList
    simp only [List.length_drop]; omega)
  rw [h3, List.drop_zero, Nat.sub_zero, List.drop_take]
section
set_option maxHeartbeats 8000000
set_option maxRecDepth 100000
theorem fewest14_walk {w : World} {A : Option Addr} {kids : List Tree} {k : Nat} {num : Int} {nm : List UInt8} {c wh : Nat} (h : LArg w A kids) (hbd : PP.bdT (.node k num nm kids)) (hwh : wh ≤ 255) :
    Calls Tryd.prog 7 #[.agg #[.int .u8 (k : Int), .int .i64 num, .string ⟨nm.toArray⟩, .slice A kids.length c], .int .u8 (wh : Int)] w fun e w' => e = .returned (.bool true) ∧ Below w.heap.size w w' := by
  have hnot : ∀ (x : Bool) (w : World), (Op.unary .not (.bool x)).run Tryd.prog w = .ok (.bool (!x)) w := fun _ _ => rfl
  have hb : Below w.heap.size w (w.alloc (.cells #[.int .u8 (k : Int), .int .i64 num, .string ⟨nm.toArray⟩, .slice A kids.length c] 24)) := (Below.refl _ _).alloc (Nat.le_refl _) _
  have hblk := Blk.new w 24 #[.int .u8 (k : Int), .int .i64 num, .string ⟨nm.toArray⟩, .slice A kids.length c]
  have h1 := h.below hb
  have HAW := Lib.hid (awake14_any _ h1.ops h1.pow h1.sg)
  have HL := Lib.hid h
  have HBD := Lib.hid hbd
  have HB := Lib.hid hb
  have HBK := Lib.hid hblk
  clear h hbd hb hblk h1
  go_enter Tryd.func7, Tryd.ntmps7
  go_wp2_with fail
  refine HAW.out.mono ?_
  rintro e w1 ⟨rfl, hb1⟩
  have g1 := HB.out.trans (hb1.mono HB.out.size)
  have HB1 := Lib.hid g1
  have hk1 := Blk.below HBK.out hb1
  obtain ⟨x0, x1, x2, x3⟩ := hk1.four.1
  have hl1 := hk1.lt
  have HK1 := Lib.hid hk1
  have hsm := small_any (k := k) (num := num) (nm := nm) (c := c) (HL.out.below g1).ks HBD.out
  clear g1 hb1 hk1 HBK HAW
  by_cases hc : PP.cntT (.node k num nm kids) 20 ≤ 500
  · rw [show decide (PP.cntT (.node k num nm kids) 20 ≤ 500) = true from by simpa using hc] at hsm
    obtain ⟨c1, c2, c3⟩ := PP.cntT_ok (.node k num nm kids) 20 (by omega)
    have hsz : PP.sizeL kids ≤ 999999 := by simp only [PP.Tree.size] at c1; omega
    simp only [PP.nmT, Bool.and_eq_true, decide_eq_true_iff] at c3
    obtain ⟨hnm, hnk⟩ := c3
    have HSM := Lib.hid hsm
    have HNK := Lib.hid hnk
    clear hsm hc c1 c2 hnk
    go_wp2_with fail
    refine HSM.out.mono ?_
    rintro e w2 ⟨rfl, hb2⟩
    have g2 := HB1.out.trans (hb2.mono HB1.out.size)
    have HB2 := Lib.hid g2
    have hk2 := Blk.below HK1.out hb2
    clear x0 x1 x2 x3 hl1
    obtain ⟨x0, x1, x2, x3⟩ := hk2.four.1
    have hl2 := hk2.lt
    have HK2 := Lib.hid hk2
    have hie := isExpr_any (k := k) (num := num) (nm := nm) (c := c) ((HL.out.below g2).parg hsz HNK.out) hnm
    clear g2 hb2 hk2 HK1 HSM
    cases hok : PP.okT (.node k num nm kids) 101 with
    | false =>
      rw [hok] at hie
      have HIE := Lib.hid hie
      clear hie hok
      go_wp2_with fail
      refine HIE.out.mono ?_
      rintro e w3 ⟨rfl, hb3⟩
      have HB3 := Lib.hid (HB2.out.trans (hb3.mono HB2.out.size))
      clear hb3
      go_wp2_with fail
      go_ret
      exact ⟨rfl, HB3.out⟩
    | true =>
      rw [hok] at hie
      have HIE := Lib.hid hie
      have HOK := Lib.hid hok
      clear hie hok
      go_wp2_with fail
      refine HIE.out.mono ?_
      rintro e w3 ⟨rfl, hb3⟩
      have g3 := HB2.out.trans (hb3.mono HB2.out.size)
      have HB3 := Lib.hid g3
      have hk3 := Blk.below HK2.out hb3
      clear x0 x1 x2 x3 hl2
      obtain ⟨x0, x1, x2, x3⟩ := hk3.four.1
      have hl3 := hk3.lt
      have HK3 := Lib.hid hk3
      have hli := limited14 (k := k) (num := num) (nm := nm) (c := c) (HL.out.below g3).ks hsz
      clear g3 hb3 hk3 HK2 HIE
      cases hla : PP.large (.node k num nm kids) with
      | true =>
        rw [hla] at hli
        have HLI := Lib.hid hli
        clear hli hla
        go_wp2_with fail
        refine HLI.out.mono ?_
        rintro e w4 ⟨rfl, hb4⟩
        have HB4 := Lib.hid (HB3.out.trans (hb4.mono HB3.out.size))
        clear hb4
        go_wp2_with fail
        go_ret
        exact ⟨rfl, HB4.out⟩
      | false =>
        rw [hla] at hli
        have HLI := Lib.hid hli
        have HLA := Lib.hid hla
        clear hli hla
        go_wp2_with fail
        refine HLI.out.mono ?_
        rintro e w4 ⟨rfl, hb4⟩
        have g4 := HB3.out.trans (hb4.mono HB3.out.size)
        have HB4 := Lib.hid g4
        have hk4 := Blk.below HK3.out hb4
        clear x0 x1 x2 x3 hl3
        obtain ⟨x0, x1, x2, x3⟩ := hk4.four.1
        have hl4 := hk4.lt
        have HK4 := Lib.hid hk4
        have hpe := printExpr_any (k := k) (num := num) (nm := nm) (c := c) ((HL.out.below g4).parg hsz HNK.out) hnm
        rw [show exprOut (.node k num nm kids) = (PP.prE (.node k num nm kids), 0) from by unfold exprOut; rw [HOK.out]; rfl] at hpe
        have HPE := Lib.hid hpe
        clear g4 hb4 hk4 HK3 HLI hpe
        go_wp2_with fail
        refine HPE.out.mono ?_
        rintro e w5 ⟨rfl, hb5⟩
        have g5 := HB4.out.trans (hb5.mono HB4.out.size)
        have HB5 := Lib.hid g5
        have HK5 := Lib.hid (Blk.below HK4.out hb5)
        have hsize4 : (Tree.node k num nm kids).size ≤ 400 := by
          have := HLA.out
          unfold PP.large at this
          simp only [Bool.or_eq_false_iff, decide_eq_false_iff_not] at this
          omega
        have hl5 := HL.out.below g5
        have hlen := PP.okEE HOK.out
        have hbal := PP.bal_prE _ _ (Nat.le_refl _) HOK.out
        have hfew := fun (l : List UInt8) (hl : PP.pc l < PP.pc (PP.prE (.node k num nm kids))) (n : Nat) (q : PP.St × Tree) hq he => PP.fewest HOK.out hl (n := n) (q := q) hq he
        have hts := size_mk14 (PP.prE (.node k num nm kids))
        have HTL : Hid ((⟨(PP.prE (.node k num nm kids)).toArray⟩ : ByteArray).data.toList = PP.prE (.node k num nm kids)) := Lib.hid rfl
        generalize hTXT : (⟨(PP.prE (.node k num nm kids)).toArray⟩ : ByteArray) = TXT at *
        have hl : TXT.data.toList = PP.prE (.node k num nm kids) := by rw [← hTXT]
        rw [← hl] at hbal hfew hlen hts
        have hlt0 : TXT.data.toList.length = TXT.size := Array.length_toList
        have hsz8 : TXT.size ≤ 8000 := by omega
        have HBAL := Lib.hid hbal
        have HFEW := Lib.hid hfew
        have HL5 := Lib.hid hl5
        have HSZ := Lib.hid (show (Tree.node k num nm kids).size ≤ 1000000 from by omega)
        clear hlt0 g5 hb5 hl5 hsize4 hlen hbal hfew hts hTXT hl HTL HPE HK4 x0 x1 x2 x3 hl4
        go_wp2_with fail
        obtain ⟨i0, hi, hz0, hz1, hz2⟩ := info_parts infoInt14
        go_loopw [7, 39] (fun v i wr => OpRel TXT w5 v i wr) (fun _ i _ => TXT.size - (intOf i).toNat)
        case atStart => exact ⟨0, Nat.zero_le _, rfl, World.ownsRow_nil _ _ _ _, Below.refl _ _⟩
        case round =>
          obtain ⟨j, hj, rfl, hown, hbr⟩ := hrel
          have hsr := hbr.size
          have hol := opensK_len TXT j
          by_cases hlt : j < TXT.size
          · have p1 : (0 : Int) ≤ (j : Int) := by omega
            have p2 : (j : Int) < (TXT.size : Int) := by omega
            cases hc : (((TXT[j]'hlt).toNat : Int) == 40) with
            | true =>
              have HO := Lib.hid (opensK_yes hlt hc)
              go_wp2_with (at_builtin; refine wpList_append_own _ rfl _ _ 35 rfl w5.heap.size 3 i0 (.int .i64 0) 1 8 Tryd.underlying35 hi hz0 hz1 hz2 rfl (by decide) _ _ _ rfl (hown.alloc _) ⟨wr.heap.size, 0, none⟩ 1 1 [.int .i64 (j : Int)] rfl rfl ?c1 ?c2 ?c3 ?c4 ?c5 ?_)
              case c1 =>
                intro q u hq
                match q, hq with
                | 0, hq => simp at hq; subst hq; simp [Addr.add]
              case c2 => intro u hu; simp at hu; subst hu; rfl
              case c3 => unfold maxLen; omega
              case c4 => omega
              case c5 => simp; omega
              intro v' w7 hown7 hg7 _
              have hb7 : Below w5.heap.size w5 w7 := Below.grown (hbr.alloc hsr _) hg7 (by simp; omega) (fun k hk => (hown.lt k hk).1)
              have hrow : w7.ownsRow w5.heap.size 3 1 v' (opensK TXT (j + 1)).length ((opensK TXT (j + 1)).map fun n : Nat => Value.int .i64 (n : Int)) := by
                rw [HO.out]
                simpa using hown7
              clear hown7 hg7
              go_wp2_with fail
              go_roundw
              case rel => first | exact ⟨j + 1, by omega, by go_num, hrow, hb7⟩ | ((repeat apply Exists.intro); exact ⟨⟨j + 1, by omega, by go_num, hrow, hb7⟩, rfl⟩)
              case measure => simp [intOf]; omega
            | false =>
              have HO := Lib.hid (opensK_no hlt hc)
              go_wp2_with fail
              go_roundw
              case rel => first | exact ⟨j + 1, by omega, by go_num, by rw [HO.out]; exact hown, hbr⟩ | ((repeat apply Exists.intro); exact ⟨⟨j + 1, by omega, by go_num, by rw [HO.out]; exact hown, hbr⟩, rfl⟩)
              case measure => simp [intOf]; omega
          · obtain rfl : j = TXT.size := by omega
            have hmem : ∀ x ∈ opensK TXT TXT.size, ∃ h : x < TXT.size, ((TXT[x]'h).toNat : Int) = 40 := fun x hx => opensK_mem hx
            generalize opensK TXT TXT.size = OL at *
            have HBR := Lib.hid (HB5.out.trans (hbr.mono HB5.out.size))
            by_cases hn0 : OL.length = 0
            · obtain ⟨A0, cap0, rfl⟩ := own_form hown
              rw [hn0]
              clear hown hbr hmem hol hsr
              go_wp2_with fail
              go_ret
              exact ⟨rfl, HBR.out⟩
            · obtain ⟨g, cap, rfl, hgb, hgl, hcap, hcell⟩ := own_cells hown (by omega)
              have hix : wh % OL.length < OL.length := Nat.mod_lt _ (by omega)
              obtain ⟨ii, hii⟩ : ∃ ii, OL[wh % OL.length]? = some ii := ⟨_, List.getElem?_eq_getElem hix⟩
              have hc1 := hcell (wh % OL.length) (.int .i64 (ii : Int)) (by rw [List.getElem?_map, hii]; rfl)
              obtain ⟨hil, hi40⟩ := hmem ii (List.mem_of_getElem? hii)
              have hk := Blk.below HK5.out hbr
              have HK6 := Lib.hid hk
              have HL6 := Lib.hid (HL5.out.below hbr)
              have z1 : ((OL.length : Int) == 0) = false := beq_eq_false_iff_ne.2 (by omega)
              have z2 : Int.tmod (wh : Int) (OL.length : Int) = ((wh % OL.length : Nat) : Int) := rfl
              generalize hnn : OL.length = nn at *
              generalize hxx : wh % nn = xx at *
              clear hown hbr hmem hol hcell hii hk HK5 HL5
              go_wp2_with fail
              have hb0 := bal_near TXT ii (by omega)
              go_loopw [10, 11] (fun d j w' => DepRel TXT ii wr d j w') (fun _ j _ => TXT.size - (intOf j).toNat)
              case atStart => exact ⟨rfl, ii, Nat.le_refl _, by omega, rfl, by rw [Int.sub_self], .inl rfl⟩
              case round =>
                obtain ⟨rfl, jj, hj1, hj2, rfl, rfl, hj3⟩ := hrel
                have hbj := bal_near TXT jj hj2
                by_cases hjl : jj < TXT.size
                · have p1 : (0 : Int) ≤ (jj : Int) := by omega
                  have p2 : (jj : Int) < (TXT.size : Int) := by omega
                  have hst := bal_step TXT hjl
                  have hjj : jj = ii → PP.bal (TXT.data.toList.take jj) = PP.bal (TXT.data.toList.take ii) := by rintro rfl; rfl
                  generalize PP.bal (TXT.data.toList.take jj) = bj at *
                  generalize hb00 : PP.bal (TXT.data.toList.take ii) = bi at *
                  cases ho : (((TXT[jj]'hjl).toNat : Int) == 40) with
                  | true =>
                    have hz : (((TXT[jj]'hjl).toNat : Int) == 41) = false := by
                      simp only [beq_iff_eq] at ho; rw [ho]; rfl
                    have hs1 : PP.bl1 (TXT[jj]'hjl) = 1 := by
                      have e : TXT[jj]'hjl = 40 := by
                        simp only [beq_iff_eq] at ho
                        exact UInt8.toNat_inj.1 (by simpa using (Int.ofNat.inj (by simpa using ho)))
                      rw [e]; rfl
                    go_wp2_with fail
                    go_roundw
                    case rel => exact ⟨rfl, jj + 1, by omega, by omega, by go_num, by rw [hst, hs1, hb00]; exact congrArg _ (by omega), by rw [hst, hs1, hb00]; omega⟩
                    case measure => simp [intOf]; omega
                  | false =>
                    have hne : jj ≠ ii := by rintro rfl; rw [hi40] at ho; simp at ho
                    have hge : 1 ≤ bj - bi := by omega
                    cases hz : (((TXT[jj]'hjl).toNat : Int) == 41) with
                    | false =>
                      have hs1 : PP.bl1 (TXT[jj]'hjl) = 0 := by
                        unfold PP.bl1
                        rw [if_neg (by intro e; rw [e] at ho; simp at ho), if_neg (by intro e; rw [e] at hz; simp at hz)]
                      go_wp2_with fail
                      go_roundw
                      case rel => exact ⟨rfl, jj + 1, by omega, by omega, by go_num, by rw [hst, hs1, hb00]; exact congrArg _ (by omega), by rw [hst, hs1, hb00]; omega⟩
                      case measure => simp [intOf]; omega
                    | true =>
                      have hs1 : PP.bl1 (TXT[jj]'hjl) = -1 := by
                        have e : TXT[jj]'hjl = 41 := by
                          simp only [beq_iff_eq] at hz
                          exact UInt8.toNat_inj.1 (by simpa using (Int.ofNat.inj (by simpa using hz)))
                        rw [e]; rfl
                      by_cases hd : bj - bi - 1 = 0
                      · have hd1 : ((bj - bi - 1) == 0) = true := beq_iff_eq.2 hd
                        have hd2 : (((jj : Int)) == (TXT.size : Int)) = false := beq_eq_false_iff_ne.2 (by omega)
                        have hij : ii < jj := by omega
                        have hcut := PP.few_cut (l := TXT.data.toList) hij (by simpa using hjl) (show TXT[ii]'hil = 40 from UInt8.toNat_inj.1 (by simpa using (Int.ofNat.inj (by simpa using hi40))))
                        go_wp2_with fail
                        have hT : (TXT.extract 0 ii ++ TXT.extract (ii + 1) jj ++ TXT.extract (jj + 1) TXT.size).data.toList = TXT.data.toList.take ii ++ (TXT.data.toList.take jj).drop (ii + 1) ++ TXT.data.toList.drop (jj + 1) := three_cut TXT ii jj
                        have hTs : (TXT.extract 0 ii ++ TXT.extract (ii + 1) jj ++ TXT.extract (jj + 1) TXT.size).size ≤ maxLen := by simp only [ByteArray.size_append, ByteArray.size_extract]; unfold maxLen; omega
                        have HX := Lib.hid (fun (W : World) (h1 : SignsIs W) (h2 : OpsIs W) => expr_any _ W hTs h1 h2)
                        have hba : Below wr.heap.size wr (wr.alloc (.cells #[.int .u8 0, .int .i64 0, .string ⟨#[]⟩, .slice none 0 0] 24)).drew := below_drewN ((Below.refl _ _).alloc (Nat.le_refl _) _) 1
                        have HL7 := Lib.hid (HL6.out.below hba)
                        have HBA := Lib.hid hba
                        have HKN := Lib.hid ((Blk.new wr 24 #[.int .u8 0, .int .i64 0, .string ⟨#[]⟩, .slice none 0 0]).drewN 1)
                        have HX1 := Lib.hid (HX.out wr.drew HL6.out.sg HL6.out.ops)
                        have HX2 := Lib.hid (HX.out _ HL7.out.sg HL7.out.ops)
                        have HC := Lib.hid (HFEW.out _ hcut)
                        have HT := Lib.hid hT
                        have b1 : (0 : Int) ≤ (ii : Int) := by omega
                        have b2 : (ii : Int) ≤ (TXT.size : Int) := by omega
                        have b3 : (0 : Int) ≤ (ii : Int) + 1 := by omega
                        have b4 : (ii : Int) + 1 ≤ (jj : Int) := by omega
                        have b8 : (ii : Int) < (jj : Int) := by omega
                        have b9 : (jj : Int) < (TXT.size : Int) := by omega
                        have b5 : (jj : Int) ≤ (TXT.size : Int) := by omega
                        have b6 : (0 : Int) ≤ (jj : Int) + 1 := by omega
                        have b7 : (jj : Int) + 1 ≤ (TXT.size : Int) := by omega
                        have r1 : IntKind.i64.wrap ((ii : Int) + 1) = (ii : Int) + 1 := IntWalk.i64_in _ (by omega)
                        have r2 : IntKind.i64.wrap ((jj : Int) + 1) = (jj : Int) + 1 := IntWalk.i64_in _ (by omega)
                        have r3 : ¬ (9223372036854775807 < min ii TXT.size + (jj - (ii + 1))) := by omega
                        have r4 : ¬ (9223372036854775807 < min ii TXT.size + (jj - (ii + 1)) + (TXT.size - (jj + 1))) := by omega
                        clear hba hT hTs hcut hst hs1 hd1 hd2 hd hge hne hz ho hbj hb0 hj3 hjj
                        go_region_held3 (fun _ => True) (exact trivial) (first | (go_at_call 22; (with_reducible refine HX1.out.mono ?_); rintro e w6 ⟨v, n, q, hq, rfl, hN, hb6⟩; have HNC := Lib.hid hN; obtain ⟨mk, mnum, mnm, mA, mc, mkids, rfl, ht, hmk⟩ := hN; have HQ := Lib.hid hq; have HB6 := Lib.hid hb6; clear ht hmk hq hb6) | (go_at_call 22; (with_reducible refine HX2.out.mono ?_); rintro e w6 ⟨v, n, q, hq, rfl, hN, hb6⟩; have HNC := Lib.hid hN; obtain ⟨mk, mnum, mnm, mA, mc, mkids, rfl, ht, hmk⟩ := hN; have HQ := Lib.hid hq; have HB6 := Lib.hid hb6; have hk7 := Blk.below HKN.out hb6; obtain ⟨⟨y0, y1, y2, y3⟩, y4, y5, y6, y7⟩ := hk7.four; have hl7 := hk7.lt; have HK7 := Lib.hid hk7; clear hk7 ht hmk hq hb6))
                        · have hb6 : Below wr.heap.size wr w6 := ⟨HB6.out.os, HB6.out.tape, HB6.out.output, HB6.out.size, HB6.out.block⟩
                          have g6 := HBR.out.trans (hb6.mono HBR.out.size)
                          have g7 : Below w.heap.size w (w6.alloc (.cells #[.int .u8 (mk : Int), .int .i64 mnum, .string ⟨mnm.toArray⟩, .slice mA mkids.length mc] 24)) := g6.alloc g6.size _
                          have hk := (Blk.below HK6.out hb6).alloc (.cells #[.int .u8 (mk : Int), .int .i64 mnum, .string ⟨mnm.toArray⟩, .slice mA mkids.length mc] 24)
                          have hn := Blk.new w6 24 #[.int .u8 (mk : Int), .int .i64 mnum, .string ⟨mnm.toArray⟩, .slice mA mkids.length mc]
                          have hN2 := HNC.out.keep (w' := (w6.alloc (.cells #[.int .u8 (mk : Int), .int .i64 mnum, .string ⟨mnm.toArray⟩, .slice mA mkids.length mc] 24))) ((Keep.refl _ _).alloc _)
                          clear hb6 g6 HB6 HK6 HNC HBR HX HX1 HX2 HKN HBA HL6 HL7
                          generalize (w6.alloc (.cells #[.int .u8 (mk : Int), .int .i64 mnum, .string ⟨mnm.toArray⟩, .slice mA mkids.length mc] 24)) = W7 at *
                          obtain ⟨x0, x1, x2, x3⟩ := hk.four.1
                          have hl8 := hk.lt
                          obtain ⟨z0, z1, z2, z3⟩ := hn.four.1
                          have hl9 := hn.lt
                          have HB7 := Lib.hid g7
                          by_cases he : q.1.err = 0
                          · have ho : PP.out PP.zeroT q = (q.2, 0, 0) := by unfold PP.out; rw [if_pos he]
                            rw [ho] at hN2 ⊢
                            have hN1 : NodeV W7 (· < W7.heap.size) (.agg #[.int .u8 (k : Int), .int .i64 num, .string ⟨nm.toArray⟩, .slice A kids.length c]) (.node k num nm kids) := ⟨k, num, nm, A, c, kids, rfl, rfl, (HL.out.below g7).ks⟩
                            have hE := equal_any hN1 hN2 HSZ.out
                            have hne := HC.out n q (by rw [← HT.out, ← envOf_eqP, ← sigOf_eqP]; exact HQ.out) he
                            rw [show PP.eqT (.node k num nm kids) q.2 = false from by
                              cases hqq : PP.eqT (.node k num nm kids) q.2 with
                              | false => rfl
                              | true => exact absurd (PP.eqT_eq _ _ hqq).symm hne] at hE
                            have HE := Lib.hid hE
                            clear hk hn hN1 hN2 g7 hE hne ho he
                            go_wp2_with fail
                            refine HE.out.mono ?_
                            rintro e w8 ⟨rfl, hb8⟩
                            have HB8 := Lib.hid (HB7.out.trans (hb8.mono HB7.out.size))
                            clear hb8 x0 x1 x2 x3 z0 z1 z2 z3 hl8 hl9
                            go_wp2_with fail
                            go_ret
                            exact ⟨rfl, HB8.out⟩
                          · have ho : (PP.out PP.zeroT q).2.2 = q.1.err := by unfold PP.out; rw [if_neg he]
                            have e9 : (((PP.out PP.zeroT q).2.2 : Int) != 0) = true := by rw [ho]; simp; omega
                            clear hk hn hN2 g7 ho
                            go_wp2_with fail
                            go_ret
                            exact ⟨rfl, HB7.out⟩
                        · have hb6 : Below wr.heap.size wr w6 := HBA.out.trans (HB6.out.mono HBA.out.size)
                          have g6 := HBR.out.trans (hb6.mono HBR.out.size)
                          have hp : w.heap.size ≤ wr.heap.size := HBR.out.size
                          have hne0 : w.heap.size ≠ wr.heap.size := Nat.ne_of_lt HK6.out.lt
                          have hz0' : ∀ o : Obj, ¬ ((wr.alloc o).drew.heap.size ≤ wr.heap.size) := fun o => by simp [World.drew]
                          have g7 : Below w.heap.size w ((((w6.setCell ⟨wr.heap.size, 0, none⟩ (.int .u8 (mk : Int))).setCell ⟨wr.heap.size, 1, none⟩ (.int .i64 mnum)).setCell ⟨wr.heap.size, 2, none⟩ (.string ⟨mnm.toArray⟩)).setCell ⟨wr.heap.size, 3, none⟩ (.slice mA mkids.length mc)) := (((g6.setCell (p := ⟨wr.heap.size, 0, none⟩) hp _).setCell (p := ⟨wr.heap.size, 1, none⟩) hp _).setCell (p := ⟨wr.heap.size, 2, none⟩) hp _).setCell (p := ⟨wr.heap.size, 3, none⟩) hp _
                          have hk : Blk ((((w6.setCell ⟨wr.heap.size, 0, none⟩ (.int .u8 (mk : Int))).setCell ⟨wr.heap.size, 1, none⟩ (.int .i64 mnum)).setCell ⟨wr.heap.size, 2, none⟩ (.string ⟨mnm.toArray⟩)).setCell ⟨wr.heap.size, 3, none⟩ (.slice mA mkids.length mc)) w.heap.size 24 _ := ((((Blk.below HK6.out hb6).far (p := ⟨wr.heap.size, 0, none⟩) hne0 _).far (p := ⟨wr.heap.size, 1, none⟩) hne0 _).far (p := ⟨wr.heap.size, 2, none⟩) hne0 _).far (p := ⟨wr.heap.size, 3, none⟩) hne0 _
                          have hn := HK7.out.st4 (.int .u8 (mk : Int)) (.int .i64 mnum) (.string ⟨mnm.toArray⟩) (.slice mA mkids.length mc)
                          have hN2 := HNC.out.keep (w' := ((((w6.setCell ⟨wr.heap.size, 0, none⟩ (.int .u8 (mk : Int))).setCell ⟨wr.heap.size, 1, none⟩ (.int .i64 mnum)).setCell ⟨wr.heap.size, 2, none⟩ (.string ⟨mnm.toArray⟩)).setCell ⟨wr.heap.size, 3, none⟩ (.slice mA mkids.length mc))) (((((Keep.refl _ _).set (p := ⟨wr.heap.size, 0, none⟩) (hz0' _) _).set (p := ⟨wr.heap.size, 1, none⟩) (hz0' _) _).set (p := ⟨wr.heap.size, 2, none⟩) (hz0' _) _).set (p := ⟨wr.heap.size, 3, none⟩) (hz0' _) _)
                          clear hb6 g6 HB6 HK6 HNC HBR HX HX1 HX2 HKN HBA HL6 HL7 hz0' y0 y1 y2 y3 y4 y5 y6 y7 HK7
                          generalize ((((w6.setCell ⟨wr.heap.size, 0, none⟩ (.int .u8 (mk : Int))).setCell ⟨wr.heap.size, 1, none⟩ (.int .i64 mnum)).setCell ⟨wr.heap.size, 2, none⟩ (.string ⟨mnm.toArray⟩)).setCell ⟨wr.heap.size, 3, none⟩ (.slice mA mkids.length mc)) = W7 at *
                          obtain ⟨x0, x1, x2, x3⟩ := hk.four.1
                          have hl8 := hk.lt
                          obtain ⟨z0, z1, z2, z3⟩ := hn.four.1
                          have hl9 := hn.lt
                          have HB7 := Lib.hid g7
                          by_cases he : q.1.err = 0
                          · have ho : PP.out PP.zeroT q = (q.2, 0, 0) := by unfold PP.out; rw [if_pos he]
                            rw [ho] at hN2 ⊢
                            have hN1 : NodeV W7 (· < W7.heap.size) (.agg #[.int .u8 (k : Int), .int .i64 num, .string ⟨nm.toArray⟩, .slice A kids.length c]) (.node k num nm kids) := ⟨k, num, nm, A, c, kids, rfl, rfl, (HL.out.below g7).ks⟩
                            have hE := equal_any hN1 hN2 HSZ.out
                            have hne := HC.out n q (by rw [← HT.out, ← envOf_eqP, ← sigOf_eqP]; exact HQ.out) he
                            rw [show PP.eqT (.node k num nm kids) q.2 = false from by
                              cases hqq : PP.eqT (.node k num nm kids) q.2 with
                              | false => rfl
                              | true => exact absurd (PP.eqT_eq _ _ hqq).symm hne] at hE
                            have HE := Lib.hid hE
                            clear hk hn hN1 hN2 g7 hE hne ho he
                            go_wp2_with fail
                            refine HE.out.mono ?_
                            rintro e w8 ⟨rfl, hb8⟩
                            have HB8 := Lib.hid (HB7.out.trans (hb8.mono HB7.out.size))
                            clear hb8 x0 x1 x2 x3 z0 z1 z2 z3 hl8 hl9
                            go_wp2_with fail
                            go_ret
                            exact ⟨rfl, HB8.out⟩
                          · have ho : (PP.out PP.zeroT q).2.2 = q.1.err := by unfold PP.out; rw [if_neg he]
                            have e9 : (((PP.out PP.zeroT q).2.2 : Int) != 0) = true := by rw [ho]; simp; omega
                            clear hk hn hN2 g7 ho
                            go_wp2_with fail
                            go_ret
                            exact ⟨rfl, HB7.out⟩
                      · have hd1 : ((bj - bi - 1) == 0) = false := beq_eq_false_iff_ne.2 hd
                        go_wp2_with fail
                        go_roundw
                        case rel => exact ⟨rfl, jj + 1, by omega, by omega, by go_num, by rw [hst, hs1, hb00]; exact congrArg _ (by omega), by rw [hst, hs1, hb00]; omega⟩
                        case measure => simp [intOf]; omega
                · exfalso
                  obtain rfl : jj = TXT.size := by omega
                  have h1 := HBAL.out.1
                  have h2 := HBAL.out.2 ii
                  rw [show TXT.data.toList.take TXT.size = TXT.data.toList from List.take_of_length_le (Nat.le_of_eq Array.length_toList)] at hj3
                  omega
  · rw [show decide (PP.cntT (.node k num nm kids) 20 ≤ 500) = false from by simpa using hc] at hsm
    have HSM := Lib.hid hsm
    clear hsm hc
    go_wp2_with fail
    refine HSM.out.mono ?_
    rintro e w2 ⟨rfl, hb2⟩
    have HB2 := Lib.hid (HB1.out.trans (hb2.mono HB1.out.size))
    clear hb2
    go_wp2_with fail
    go_ret
    exact ⟨rfl, HB2.out⟩
end
end Go.Proofs.YtfakdbnfpdalhaaDoor
