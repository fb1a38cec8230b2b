/- The contracts of the printer's statement and block for every valid tree, and of Expr and Block. -/
import Derived.Test.YtkeehpgnljieeaaDoorPrG
import Derived.Test.YtkeehpgnljieeaaDoorPrH
namespace Go.Proofs.YtkeehpgnljieeaaDoor
open Go.RowKit
open PP (Tree)
section
variable {B b : Nat}
theorem kids_len (l : List Tree) : l.length ≤ PP.sizeL l := by
  induction l with
  | nil => simp
  | cons a l ih => simp only [List.length_cons, PP.sizeL]; have := a.size_pos; omega
theorem okS_mem : ∀ {l : List Tree} {t : Tree}, PP.okS l = true → t ∈ l → PP.okT t 115 = true
  | [], _, _, h => by simp at h
  | a :: l, t, hs, h => by
    simp only [PP.okS, Bool.and_eq_true] at hs
    rcases List.mem_cons.1 h with rfl | h
    · exact hs.1
    · exact okS_mem hs.2 h
theorem size_memL : ∀ {l : List Tree} {t : Tree}, t ∈ l → t.size ≤ PP.sizeL l
  | [], _, h => by simp at h
  | a :: l, t, h => by
    simp only [PP.sizeL]
    rcases List.mem_cons.1 h with rfl | h
    · omega
    · have := size_memL h; omega
theorem prstmt_upto : ∀ (n : Nat), n ≤ 1000000 → (∀ t : Tree, t.size ≤ n → PP.okT t 115 = true → PrStmtOk B b t) ∧ (∀ t : Tree, t.size ≤ n → PP.okT t 98 = true → PrBlockOk B b t)
  | 0, _ => ⟨fun t hs => by have := t.size_pos; omega, fun t hs => by have := t.size_pos; omega⟩
  | n + 1, hn => by
    obtain ⟨ihS, ihB⟩ := prstmt_upto n (by omega)
    refine ⟨fun t hs h => ?_, fun t hs h => ?_⟩
    · cases t with
      | node k num nm kids =>
        rcases PP.okS_inv h with ⟨rfl, rfl, rfl, a, d, rfl, ha, hd⟩ | ⟨rfl, rfl, rfl, a, d, f, rfl, ha, hd, hf⟩ | ⟨rfl, h1, h2, _, a, rfl, ha⟩ | ⟨rfl, h1, h2, rfl, a, d, rfl, ha, hd⟩ | ⟨rfl, h1, h2, rfl, a, rfl, ha⟩ | ⟨rfl, h1, h2, rfl, a, rfl, ha⟩ | ⟨rfl, rfl, _, a, rfl, ha⟩
        all_goals simp only [PP.Tree.size, PP.sizeL] at hs
        · exact prstmt_assign (PP.okT_place ha) (by omega) hd (by omega)
        · exact prstmt_if ha (by omega) (ihB _ (by omega) hd) (ihB _ (by omega) hf)
        · exact prstmt_for (by omega) (by omega) (ihB _ (by omega) ha)
        · exact prstmt_while (by omega) (by omega) ha (by omega) (ihB _ (by omega) hd)
        · exact prstmt_in (by omega) (by omega) (PP.okT_place ha) (by omega)
        · exact prstmt_out (by omega) (by omega) ha (by omega)
        · exact prstmt_lock (ihB _ (by omega) ha)
    · cases t with
      | node k num nm kids =>
        obtain ⟨rfl, rfl, rfl, hk⟩ := PP.okB_inv h
        simp only [PP.Tree.size] at hs
        have hl := kids_len kids
        refine prblock_of (fun x hx => ihS x ?_ (okS_mem hk hx)) (by show kids.length ≤ _; omega)
        have := size_memL (show x ∈ kids from hx); omega
theorem prstmt_all {t : Tree} (h : PP.okT t 115 = true) (hs : t.size ≤ 1000000) : PrStmtOk B b t := (prstmt_upto t.size hs).1 t (Nat.le_refl _) h
theorem block_all {t : Tree} (h : PP.okT t 98 = true) (hs : t.size ≤ 1000000) : PrBlockOk B b t := (prstmt_upto t.size hs).2 t (Nat.le_refl _) h
end
section
set_option maxHeartbeats 2000000
set_option maxRecDepth 100000
variable {w : World} {B : Nat} {k : Nat} {num : Int} {nm : List UInt8} {A : Option Addr} {c : Nat} {kids : List Tree}
/-- What the printers are handed: a tree in old memory, the tables. -/
structure PArg (w : World) (B : Nat) (A : Option Addr) (kids : List Tree) : Prop where
  ks : KidsC w (· < B) A kids
  hB : B ≤ w.heap.size
  ops : OpsIs w
  pow : PowIs w
  sg : SignsIs w
  sz : PP.sizeL kids ≤ 999999
  nm : PP.nmL kids = true
theorem SignsIs.belowS {w w' : World} (h : SignsIs w) (hb : Below w.heap.size w w') : SignsIs w' := by
  obtain ⟨t, fr, hs⟩ := h
  exact ⟨t, fr, (hb.block _ (Array.getElem?_eq_some_iff.1 hs).1).trans hs⟩
theorem PArg.below {w' : World} (h : PArg w B A kids) (hb : Below w.heap.size w w') : PArg w' B A kids :=
  ⟨h.ks.keep ⟨hb.size, fun g _ hg => hb.block g hg⟩, Nat.le_trans h.hB hb.size, h.ops.below hb, h.pow.below hb h.pow.lt, h.sg.belowS hb, h.sz, h.nm⟩
theorem isExpr_any (h : PArg w B A kids) (hn : nm.length ≤ 65536) : Calls Tryd.prog 21 #[.agg #[.int .u8 (k : Int), .int .i64 num, .string ⟨nm.toArray⟩, .slice A kids.length c]] w fun e w' => e = .returned (.bool (PP.okT (.node k num nm kids) 101)) ∧ Below w.heap.size w w' :=
  isExpr_of (fun _ hb => isValid_upto 999999 kids h.sz _ _ A (h.below hb).ks (h.below hb).sg k num nm c 101 hn h.nm (by unfold CatOk; decide) (by decide))
theorem isBlock_any (h : PArg w B A kids) (hn : nm.length ≤ 65536) : Calls Tryd.prog 6 #[.agg #[.int .u8 (k : Int), .int .i64 num, .string ⟨nm.toArray⟩, .slice A kids.length c]] w fun e w' => e = .returned (.bool (PP.okT (.node k num nm kids) 98)) ∧ Below w.heap.size w w' :=
  isBlock_of (fun _ hb => isValid_upto 999999 kids h.sz _ _ A (h.below hb).ks (h.below hb).sg k num nm c 98 hn h.nm (by unfold CatOk; decide) (by decide))
/-- What Expr and Block answer. -/
def exprOut (t : Tree) : List UInt8 × Int := if PP.okT t 101 then (PP.prE t, 0) else ([], 3)
def blockOut (t : Tree) : List UInt8 × Int := if PP.okT t 98 then (PP.prB t 0, 0) else ([], 3)
theorem printExpr_any (h : PArg w B A kids) (hn : nm.length ≤ 65536) :
    Calls Tryd.prog 10 #[.agg #[.int .u8 (k : Int), .int .i64 num, .string ⟨nm.toArray⟩, .slice A kids.length c]] w fun e w' => e = .returned (.tuple #[.string ⟨(exprOut (.node k num nm kids)).1.toArray⟩, .int .i64 (exprOut (.node k num nm kids)).2]) ∧ Below w.heap.size w w' := by
  have hnot : ∀ (x : Bool) (w : World), (Op.unary .not (.bool x)).run Tryd.prog w = .ok (.bool (!x)) w := fun _ _ => rfl
  have hb1 : Below w.heap.size w (w.alloc (.cells #[.int .u8 (k : Int), .int .i64 num, .string ⟨nm.toArray⟩, .slice A kids.length c] 24)) := (Below.refl _ _).alloc (Nat.le_refl _) _
  have hblk := Blk.new w 24 #[.int .u8 (k : Int), .int .i64 num, .string ⟨nm.toArray⟩, .slice A kids.length c]
  have hv := isExpr_any (k := k) (num := num) (nm := nm) (c := c) (h.below hb1) hn
  have HB1 := Lib.hid hb1
  have HBK := Lib.hid hblk
  have HA := Lib.hid h
  unfold exprOut
  clear h hb1 hblk
  cases hok : PP.okT (.node k num nm kids) 101 with
  | false =>
    rw [hok] at hv
    have HV := Lib.hid hv
    clear hok hv
    go_enter Tryd.func10, Tryd.ntmps10
    go_wp2_with fail
    refine HV.out.mono ?_
    rintro e w2 ⟨rfl, hb2⟩
    have HB2 := Lib.hid (HB1.out.trans (hb2.mono HB1.out.size))
    clear hb2
    go_wp2_with fail
    go_ret2
    exact ⟨rfl, HB2.out⟩
  | true =>
    rw [hok] at hv
    have HV := Lib.hid hv
    have HOK := Lib.hid hok
    clear hok hv
    go_enter Tryd.func10, Tryd.ntmps10
    go_wp2_with fail
    refine HV.out.mono ?_
    rintro e w2 ⟨rfl, hb2⟩
    have HB2 := Lib.hid (HB1.out.trans (hb2.mono HB1.out.size))
    have hbk2 := Blk.below HBK.out hb2
    obtain ⟨x0, x1, x2, x3⟩ := hbk2.four.1
    have hlt := hbk2.lt
    have h2 := HA.out.below HB2.out
    have h0 := PInv.fresh h2.ops h2.pow rfl
    have hb3 : Below w2.heap.size w2 (w2.alloc (.cells #[.pointer none, .slice none 0 0, .int .i64 0] 43)) := (Below.refl _ _).alloc (Nat.le_refl _) _
    have hln := PP.okEE HOK.out
    have HC := Lib.hid (expr_all HOK.out _ _ _ _ _ _ _ _ _ c _ rfl ((h2.below hb3).ks.weak (fun g hg _ => show g < w2.heap.size from Nat.lt_of_lt_of_le hg h2.hB)) h0 (by have := HA.out.sz; simp only [PP.Tree.size] at hln; simp; omega))
    have HB3 := Lib.hid (HB2.out.trans (hb3.mono HB2.out.size))
    have HSZ := Lib.hid (show w.heap.size ≤ w2.heap.size from HB2.out.size)
    clear hb2 hbk2 h2 h0 hb3 hln
    go_wp2_with fail
    refine HC.out.mono ?_
    rintro e w4 ⟨rfl, hp4⟩
    have HS := Lib.hid (page_string _ _ _ _ _ (by simpa using hp4.pg))
    have HP := Lib.hid hp4
    clear hp4 x0 x1 x2 x3 hlt
    go_wp2_with fail
    refine HS.out.mono ?_
    rintro e w5 ⟨rfl, hb5⟩
    have HB5 := Lib.hid hb5
    clear hb5
    go_wp2_with fail
    go_ret2
    exact ⟨rfl, HB3.out.trans (Below.mono (HP.out.be.trans HB5.out) HSZ.out)⟩
theorem printBlock_any (h : PArg w B A kids) (hn : nm.length ≤ 65536) (hd : PP.depthL kids ≤ 900) :
    Calls Tryd.prog 7 #[.agg #[.int .u8 (k : Int), .int .i64 num, .string ⟨nm.toArray⟩, .slice A kids.length c]] w fun e w' => e = .returned (.tuple #[.string ⟨(blockOut (.node k num nm kids)).1.toArray⟩, .int .i64 (blockOut (.node k num nm kids)).2]) ∧ Below w.heap.size w w' := by
  have hnot : ∀ (x : Bool) (w : World), (Op.unary .not (.bool x)).run Tryd.prog w = .ok (.bool (!x)) w := fun _ _ => rfl
  have hb1 : Below w.heap.size w (w.alloc (.cells #[.int .u8 (k : Int), .int .i64 num, .string ⟨nm.toArray⟩, .slice A kids.length c] 24)) := (Below.refl _ _).alloc (Nat.le_refl _) _
  have hblk := Blk.new w 24 #[.int .u8 (k : Int), .int .i64 num, .string ⟨nm.toArray⟩, .slice A kids.length c]
  have hv := isBlock_any (k := k) (num := num) (nm := nm) (c := c) (h.below hb1) hn
  have HB1 := Lib.hid hb1
  have HBK := Lib.hid hblk
  have HA := Lib.hid h
  have hkl := kids_len kids
  have hsz := h.sz
  unfold blockOut
  clear h hb1 hblk
  cases hok : PP.okT (.node k num nm kids) 98 with
  | false =>
    rw [hok] at hv
    have HV := Lib.hid hv
    clear hok hv
    go_enter Tryd.func7, Tryd.ntmps7
    go_wp2_with fail
    refine HV.out.mono ?_
    rintro e w2 ⟨rfl, hb2⟩
    have HB2 := Lib.hid (HB1.out.trans (hb2.mono HB1.out.size))
    clear hb2
    go_wp2_with fail
    go_ret2
    exact ⟨rfl, HB2.out⟩
  | true =>
    rw [hok] at hv
    obtain ⟨rfl, rfl, rfl, hks⟩ := PP.okB_inv hok
    have HV := Lib.hid hv
    have HOK := Lib.hid hks
    clear hok hv hks
    go_enter Tryd.func7, Tryd.ntmps7
    go_wp2_with fail
    refine HV.out.mono ?_
    rintro e w2 ⟨rfl, hb2⟩
    have HB2 := Lib.hid (HB1.out.trans (hb2.mono HB1.out.size))
    have hbk2 := Blk.below HBK.out hb2
    obtain ⟨x0, x1, x2, x3⟩ := hbk2.four.1
    have hlt := hbk2.lt
    have h2 := HA.out.below HB2.out
    have h0 := PInv.fresh h2.ops h2.pow rfl
    have hb3 : Below w2.heap.size w2 (w2.alloc (.cells #[.pointer none, .slice none 0 0, .int .i64 0] 43)) := (Below.refl _ _).alloc (Nat.le_refl _) _
    have HK := Lib.hid ((h2.below hb3).ks.weak (Z' := (· < w2.heap.size)) (fun g hg _ => Nat.lt_of_lt_of_le hg h2.hB))
    have HI := Lib.hid h0
    have HB3 := Lib.hid (HB2.out.trans (hb3.mono HB2.out.size))
    have HSZ := Lib.hid (show w.heap.size ≤ w2.heap.size from HB2.out.size)
    have HLEN := Lib.hid ((PP.prS_len (PP.sizeL kids)).2 kids 0 (Nat.le_refl _) HOK.out (by omega))
    clear hb2 hbk2 h2 h0 hb3
    go_wp2_with fail
    clear x0 x1 x2 x3 hlt
    generalize w2.alloc (.cells #[.pointer none, .slice none 0 0, .int .i64 0] 43) = w3 at *
    go_loopw [13] (fun i wr => ∃ j : Nat, j ≤ kids.length ∧ i = .int .i64 (j : Int) ∧ PInv w3 w2.heap.size w2.heap.size (PP.prL (kids.take j) 0) ((0 : Nat) : Int) [] wr) (fun i _ => kids.length - (intOf i).toNat)
    case atStart => exact ⟨0, Nat.zero_le _, rfl, by simpa [PP.prL] using HI.out⟩
    case round =>
      obtain ⟨j, hj, rfl, hr⟩ := hrel
      by_cases hlt : j < kids.length
      · have hne : kids ≠ [] := by intro e; rw [e] at hlt; simp at hlt
        obtain ⟨g, o, rfl, hg, _, hat⟩ := HK.out.at_ hne
        obtain ⟨k1, num1, nm1, A1, c1, ks1, ht, ⟨x0, x1, x2, x3⟩, hk1⟩ := hat j _ (List.getElem?_eq_getElem hlt)
        have hkj : kids[j]? = some (.node k1 num1 nm1 ks1) := by rw [List.getElem?_eq_getElem hlt, ht]
        have d0 := (hr.be.cell (p := ⟨g, o + j * 4, none⟩) hg).trans x0
        have d1 := (hr.be.cell (p := ⟨g, o + j * 4 + 1, none⟩) hg).trans x1
        have d2 := (hr.be.cell (p := ⟨g, o + j * 4 + 2, none⟩) hg).trans x2
        have d3 := (hr.be.cell (p := ⟨g, o + j * 4 + 3, none⟩) hg).trans x3
        have hgv : g < wr.heap.size := Nat.lt_of_lt_of_le hg hr.size
        have hle := prL_le kids (j + 1) 0
        rw [prL_take hkj, List.length_append] at hle
        have HT := Lib.hid (prL_take hkj 0)
        have hdep := depth_at hkj
        have hmem := List.mem_of_getElem? hkj
        have hsm := size_memL hmem
        have hfull := HLEN.out
        have ha := hr.alloc #[.int .u8 (k1 : Int), .int .i64 num1, .string ⟨nm1.toArray⟩, .slice A1 ks1.length c1] 24 (by decide) rfl
        have HC := Lib.hid (prstmt_all (okS_mem HOK.out hmem) (by omega) w3 _ _ 0 _ k1 num1 nm1 A1 c1 ks1 rfl hk1 ha (by omega) (by omega))
        have p1 : (0 : Int) ≤ (j : Int) := by omega
        have p2 : (j : Int) < (kids.length : Int) := by omega
        clear hat ht hkj hk1 x0 x1 x2 x3 hne ha hr hmem hsm hfull hle hdep
        go_wp2_with fail
        refine HC.out.mono ?_
        rintro e w4 ⟨rfl, hp4⟩
        have HP := Lib.hid hp4
        clear hp4 d0 d1 d2 d3 HC
        go_wp2_with fail
        go_roundw
        case rel => exact ⟨j + 1, by omega, by go_num, by rw [HT.out]; exact HP.out.drop⟩
        case measure => simp [intOf]; omega
      · have hall : kids.take j = kids := List.take_of_length_le (by omega)
        rw [hall] at hr
        have HS := Lib.hid (page_string _ _ _ _ _ hr.pg)
        have HP := Lib.hid hr
        clear hr hall
        go_wp2_with fail
        refine HS.out.mono ?_
        rintro e w5 ⟨rfl, hb5⟩
        have HB5 := Lib.hid hb5
        clear hb5
        go_wp2_with fail
        go_ret2
        exact ⟨rfl, HB3.out.trans (Below.mono (HP.out.be.trans HB5.out) HSZ.out)⟩
end
end Go.Proofs.YtkeehpgnljieeaaDoor
