/- The walk of ParserParts. -/
import Derived.Test.YtfakdbnfpdalhaaGreatDoorPlainParts
import Derived.Test.YtfakdbnfpdalhaaGreatDoorRdL
namespace Go.Proofs.YtfakdbnfpdalhaaGreatDoor
open Go.RowKit Go.Maps
open PP (Tree)
theorem out_small (t : Tree) (o : Nat) (σ : PP.St) : (PP.out PP.zeroT (PP.limitP t o σ, t)).1.size ≤ 1000000 := by
  unfold PP.out
  split
  · rename_i h
    obtain ⟨_, hl, _⟩ := PP.limitP_ok h
    unfold PP.large at hl
    simp only [Bool.or_eq_false_iff, decide_eq_false_iff_not] at hl
    show t.size ≤ 1000000
    omega
  · show PP.zeroT.size ≤ 1000000
    simp [PP.zeroT, PP.Tree.size, PP.sizeL]
section
set_option maxHeartbeats 4000000
set_option maxRecDepth 100000
theorem parparts_walk (s : ByteArray) (w : World) (hg : SignsIs w) (hO : OpsIs w) (hs : s.size ≤ maxLen) :
    Calls Tryz.prog 4 #[.string s] w fun e w' => e = .returned (.bool true) ∧ Below w.heap.size w w' := by
  have HG := Lib.hid hg
  have HO := Lib.hid hO
  have HA := Lib.hid (awake13_any w hg hO)
  have HSM := Lib.hid hs
  have hnot : ∀ (x : Bool) (w : World), (Op.unary .not (.bool x)).run Tryz.prog w = .ok (.bool (!x)) w := fun _ _ => rfl
  clear hg hO hs
  by_cases hl : 500 < s.size
  · have e1 : decide ((500 : Int) < (s.size : Int)) = true := by simp; omega
    have e2 : decide (500 < s.size) = true := by simp; omega
    go_enter Tryz.func4, Tryz.ntmps4
    go_wp2_with fail
    refine HA.out.mono ?_
    rintro e w1 ⟨rfl, hb1⟩
    go_wp2_with fail
    go_ret
    exact ⟨rfl, hb1⟩
  have e1 : decide ((500 : Int) < (s.size : Int)) = false := by simp; omega
  have e2 : decide (500 < s.size) = false := by simp; omega
  have hsl : s.size ≤ 500 := by omega
  clear hl
  go_enter Tryz.func4, Tryz.ntmps4
  go_wp2_with fail
  refine HA.out.mono ?_
  rintro e w1 ⟨rfl, hb1⟩
  have HB1 := Lib.hid hb1
  have HX := Lib.hid (block13_any s w1 HSM.out (HG.out.below hb1 HG.out.pos) (HO.out.below hb1))
  clear hb1 HA
  go_wp2_with fail
  refine HX.out.mono ?_
  rintro e w2 ⟨v, n, q, hq, rfl, hN, hb2⟩
  have HNv := Lib.hid hN
  have HB2 := Lib.hid (HB1.out.trans (hb2.mono HB1.out.size))
  obtain ⟨k, num, nm, A, c, kids, rfl, ht, hK⟩ := hN
  have hblk := Blk.new w2 36 #[.int .u8 (k : Int), .int .i64 num, .string ⟨nm.toArray⟩, .slice A kids.length c]
  have hb3 : Below w.heap.size w (w2.alloc (.cells #[.int .u8 (k : Int), .int .i64 num, .string ⟨nm.toArray⟩, .slice A kids.length c] 36)) := HB2.out.alloc HB2.out.size _
  have HR := Lib.hid (refblock_any s (w2.alloc (.cells #[.int .u8 (k : Int), .int .i64 num, .string ⟨nm.toArray⟩, .slice A kids.length c] 36)) (by omega))
  have HBLK := Lib.hid hblk
  have HB3 := Lib.hid hb3
  have HQ := Lib.hid hq
  have HT := Lib.hid ht
  clear hb2 HX HB1 hblk hb3 hq ht hK
  have hsz : (PP.out PP.zeroT q).1.size ≤ 1000000 := by
    have h := HQ.out
    unfold PP.blockP at h
    obtain ⟨x, hx, rfl⟩ := Option.map_eq_some_iff.1 h
    exact out_small _ _ _
  have HSZ := Lib.hid hsz
  clear hsz
  generalize hO : PP.out PP.zeroT q = OO at *
  have HOO := Lib.hid hO
  clear hO
  go_wp2_with fail
  refine HR.out.mono ?_
  rintro e w4 ⟨v', n', q', hq', rfl, hN', hb4⟩
  have heq : PP.out PP.zeroT (endSt (envOf s) q'.2 q'.1, q'.2) = OO := (blockP_ref HQ.out hq').symm.trans HOO.out
  rw [heq] at hN' ⊢
  have HNw := Lib.hid hN'
  have hb4' : Below w.heap.size w w4 := HB3.out.trans (hb4.mono HB3.out.size)
  obtain ⟨k', num', nm', A', c', kids', rfl, ht', hK'⟩ := hN'
  have hb5 : Below w.heap.size w (w4.alloc (.cells #[.int .u8 (k' : Int), .int .i64 num', .string ⟨nm'.toArray⟩, .slice A' kids'.length c'] 36)) := hb4'.alloc hb4'.size _
  have hB5 := (HBLK.out.belowD hb4).alloc (.cells #[.int .u8 (k' : Int), .int .i64 num', .string ⟨nm'.toArray⟩, .slice A' kids'.length c'] 36)
  have hB6 := Blk.new w4 36 #[.int .u8 (k' : Int), .int .i64 num', .string ⟨nm'.toArray⟩, .slice A' kids'.length c']
  have hkv : Below w2.heap.size w2 (w4.alloc (.cells #[.int .u8 (k' : Int), .int .i64 num', .string ⟨nm'.toArray⟩, .slice A' kids'.length c'] 36)) := (((Below.refl w2.heap.size w2).alloc (Nat.le_refl _) (.cells #[.int .u8 (k : Int), .int .i64 num, .string ⟨nm.toArray⟩, .slice A kids.length c] 36)).trans (hb4.mono (by simp))).alloc (by have := hb4.size; simp at this; omega) _
  have HEQ := Lib.hid (requal_any (HNv.out.keep (keep_of_below hkv)) (HNw.out.keep (keep_of_below ((Below.refl w4.heap.size w4).alloc (Nat.le_refl _) (.cells #[.int .u8 (k' : Int), .int .i64 num', .string ⟨nm'.toArray⟩, .slice A' kids'.length c'] 36)))) HSZ.out)
  obtain ⟨⟨m0, m1, m2, m3⟩, _, _, _, _⟩ := hB5.four
  obtain ⟨⟨n0, n1, n2, n3⟩, _, _, _, _⟩ := hB6.four
  have HB5 := Lib.hid hb5
  clear hB5 hB6 hkv hb5 hb4' hb4 hq' heq hK' ht' HR
  have f1 : ((OO.2.2 : Int) != (OO.2.2 : Int)) = false := by simp
  have f2 : ((OO.2.1 : Int) != (OO.2.1 : Int)) = false := by simp
  go_wp2_with fail
  refine HEQ.out.mono ?_
  rintro e w6 ⟨rfl, hb6⟩
  have HB6 := Lib.hid (HB5.out.trans (hb6.mono HB5.out.size))
  have HX2 := Lib.hid (expr_any s w6 HSM.out (HG.out.below (HB6.out.mono (Nat.le_refl _)) HG.out.pos) (HO.out.below HB6.out))
  clear hb6 HEQ m0 m1 m2 m3 n0 n1 n2 n3 f1 f2 HNv HNw HOO HSZ HBLK HB3 HB2 HQ HT HB5
  go_wp2_with fail
  refine HX2.out.mono ?_
  rintro e x2 ⟨v, n, q, hq, rfl, hN, hb2⟩
  have HNv := Lib.hid hN
  have HB2 := Lib.hid (HB6.out.trans (hb2.mono HB6.out.size))
  obtain ⟨k, num, nm, A, c, kids, rfl, ht, hK⟩ := hN
  have hblk := Blk.new x2 36 #[.int .u8 (k : Int), .int .i64 num, .string ⟨nm.toArray⟩, .slice A kids.length c]
  have hb3 : Below w.heap.size w (x2.alloc (.cells #[.int .u8 (k : Int), .int .i64 num, .string ⟨nm.toArray⟩, .slice A kids.length c] 36)) := HB2.out.alloc HB2.out.size _
  have HR := Lib.hid (refexpr_any s (x2.alloc (.cells #[.int .u8 (k : Int), .int .i64 num, .string ⟨nm.toArray⟩, .slice A kids.length c] 36)) (by omega))
  have HBLK := Lib.hid hblk
  have HB3 := Lib.hid hb3
  have HQ := Lib.hid hq
  clear hb2 HX2 hblk hb3 hq ht hK
  generalize hO2 : PP.out PP.zeroT q = OP at *
  have HOO := Lib.hid hO2
  clear hO2
  go_wp2_with fail
  refine HR.out.mono ?_
  rintro e x4 ⟨v', n', q', hq', rfl, hN', hb4⟩
  have hqq := exprP_ref HQ.out hq'
  have hsz := out_small q'.2 0 (if PP.more (envOf s) q'.1 then PP.reject (envOf s) q'.1 else q'.1)
  have heq : PP.out PP.zeroT (endSt (envOf s) q'.2 q'.1, q'.2) = OP := by rw [← hqq]; exact HOO.out
  have hsz2 : OP.1.size ≤ 1000000 := by rw [← heq]; exact hsz
  have HSZ := Lib.hid hsz2
  rw [heq] at hN' ⊢
  have HNw := Lib.hid hN'
  have hb4' : Below w.heap.size w x4 := HB3.out.trans (hb4.mono HB3.out.size)
  obtain ⟨k', num', nm', A', c', kids', rfl, ht', hK'⟩ := hN'
  have hb5 : Below w.heap.size w (x4.alloc (.cells #[.int .u8 (k' : Int), .int .i64 num', .string ⟨nm'.toArray⟩, .slice A' kids'.length c'] 36)) := hb4'.alloc hb4'.size _
  have hB5 := (HBLK.out.belowD hb4).alloc (.cells #[.int .u8 (k' : Int), .int .i64 num', .string ⟨nm'.toArray⟩, .slice A' kids'.length c'] 36)
  have hB6 := Blk.new x4 36 #[.int .u8 (k' : Int), .int .i64 num', .string ⟨nm'.toArray⟩, .slice A' kids'.length c']
  have hkv : Below x2.heap.size x2 (x4.alloc (.cells #[.int .u8 (k' : Int), .int .i64 num', .string ⟨nm'.toArray⟩, .slice A' kids'.length c'] 36)) := (((Below.refl x2.heap.size x2).alloc (Nat.le_refl _) (.cells #[.int .u8 (k : Int), .int .i64 num, .string ⟨nm.toArray⟩, .slice A kids.length c] 36)).trans (hb4.mono (by simp))).alloc (by have := hb4.size; simp at this; omega) _
  have HEQ := Lib.hid (requal_any (HNv.out.keep (keep_of_below hkv)) (HNw.out.keep (keep_of_below ((Below.refl x4.heap.size x4).alloc (Nat.le_refl _) (.cells #[.int .u8 (k' : Int), .int .i64 num', .string ⟨nm'.toArray⟩, .slice A' kids'.length c'] 36)))) HSZ.out)
  obtain ⟨⟨m0, m1, m2, m3⟩, _, _, _, _⟩ := hB5.four
  obtain ⟨⟨n0, n1, n2, n3⟩, _, _, _, _⟩ := hB6.four
  have HB5 := Lib.hid hb5
  clear hB5 hB6 hkv hb5 hb4' hb4 hq' heq hK' ht' HR hqq hsz hsz2
  have f1 : ((OP.2.2 : Int) == (OP.2.2 : Int)) = true := by simp
  have f2 : ((OP.2.1 : Int) == (OP.2.1 : Int)) = true := by simp
  go_wp2_with fail
  refine HEQ.out.mono ?_
  rintro e w6 ⟨rfl, hb6⟩
  have HB6 := Lib.hid (HB5.out.trans (hb6.mono HB5.out.size))
  clear hb6 HEQ m0 m1 m2 m3 n0 n1 n2 n3
  go_wp2_with fail
  go_ret
  exact ⟨rfl, HB6.out⟩
end
end Go.Proofs.YtfakdbnfpdalhaaGreatDoor
