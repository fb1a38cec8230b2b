/- The reference's Small: what it counts, and its contract for every tree. -/
import Derived.Test.YtkeehpgnljieeaaDoorOpenN
import Derived.Test.YtkeehpgnljieeaaDoorPlainPrint
namespace Go.Proofs.YtkeehpgnljieeaaDoor
open Go.RowKit
open PP (Tree)
namespace PP
mutual
def cntT : Tree → Nat → Nat
  | .node _ _ nm kids, d => if d = 0 ∨ 40 < nm.length then 1000 else cntL kids (d - 1) 1
def cntL : List Tree → Nat → Nat → Nat
  | [], _, s => s
  | t :: ts, d, s => if s < 1000 then cntL ts d (s + cntT t d) else s
end
mutual
theorem cntT_le : ∀ (t : Tree) (d : Nat), cntT t d ≤ 1000 * (d + 1)
  | .node k num nm kids, d => by
    simp only [cntT]
    split
    · omega
    · rename_i h
      have := cntL_le kids (d - 1) 1 (by omega)
      have hd : d - 1 + 2 = d + 1 := by omega
      rw [hd] at this
      omega
theorem cntL_le : ∀ (l : List Tree) (d s : Nat), s ≤ 1000 * (d + 2) → cntL l d s ≤ 1000 * (d + 2)
  | [], d, s, h => by simpa [cntL] using h
  | t :: ts, d, s, h => by
    simp only [cntL]
    split
    · have := cntT_le t d
      exact cntL_le ts d _ (by omega)
    · exact h
end
mutual
/-- A count below the limit is the number of nodes. -/
theorem cntT_ok : ∀ (t : Tree) (d : Nat), cntT t d < 1000 → cntT t d = t.size ∧ t.depth ≤ d ∧ nmT t = true
  | .node k num nm kids, d, h => by
    simp only [cntT] at h ⊢
    split at h
    · omega
    · rename_i hc
      rw [if_neg hc]
      obtain ⟨h1, h2, h3⟩ := cntL_ok kids (d - 1) 1 h
      simp only [Tree.size, Tree.depth, nmT, Bool.and_eq_true, decide_eq_true_iff]
      exact ⟨h1, by omega, by omega, h3⟩
theorem cntL_ok : ∀ (l : List Tree) (d s : Nat), cntL l d s < 1000 → cntL l d s = s + sizeL l ∧ depthL l ≤ d ∧ nmL l = true
  | [], d, s, _ => by simp [cntL, sizeL, depthL, nmL]
  | t :: ts, d, s, h => by
    simp only [cntL] at h ⊢
    split at h
    · rename_i hs
      rw [if_pos hs]
      obtain ⟨h1, h2, h3⟩ := cntL_ok ts d (s + cntT t d) h
      have ht : cntT t d < 1000 := by omega
      obtain ⟨g1, g2, g3⟩ := cntT_ok t d ht
      simp only [sizeL, depthL, nmL, Bool.and_eq_true]
      exact ⟨by omega, by omega, g3, h3⟩
    · omega
end
theorem cntL_drop {l : List Tree} {j : Nat} {t : Tree} (h : l[j]? = some t) {d s : Nat} (hs : s < 1000) : cntL (l.drop j) d s = cntL (l.drop (j + 1)) d (s + cntT t d) := by
  obtain ⟨hj, rfl⟩ := List.getElem?_eq_some_iff.1 h
  rw [List.drop_eq_getElem_cons hj, cntL, if_pos hs]
theorem cntL_stop {l : List Tree} {d s : Nat} (hs : ¬ s < 1000) : cntL l d s = s := by
  cases l with
  | nil => rfl
  | cons a l => rw [cntL, if_neg hs]
end PP
def CntRel (kids : List Tree) (d : Nat) (w6 : World) (s i : Value) (wr : World) : Prop := ∃ j m : Nat, j ≤ kids.length ∧ i = .int .i64 (j : Int) ∧ s = .int .i64 (m : Int) ∧ PP.cntL kids d 1 = PP.cntL (kids.drop j) d m ∧ m ≤ 1000 * (d + 2) ∧ Below w6.heap.size w6 wr
section
set_option maxHeartbeats 2000000
set_option maxRecDepth 100000
theorem count14_any (d : Nat) : ∀ (w : World) (Z : Nat → Prop) (A : Option Addr) (kids : List Tree) (k : Nat) (num : Int) (nm : List UInt8) (c : Nat), KidsC w Z A kids → PP.bdT (.node k num nm kids) → d ≤ 100 →
    Calls Tryd.prog 12 #[.agg #[.int .u8 (k : Int), .int .i64 num, .string ⟨nm.toArray⟩, .slice A kids.length c], .int .i64 (d : Int)] w fun e w' => e = .returned (.int .i64 (PP.cntT (.node k num nm kids) d : Int)) ∧ Below w.heap.size w w' := by
  induction d with
  | zero =>
    intro w Z A kids k num nm c h hbd hd
    have hb : Below w.heap.size w (w.alloc (.cells #[.int .u8 (k : Int), .int .i64 num, .string ⟨nm.toArray⟩, .slice A kids.length c] 24)) := (Below.refl _ _).alloc (Nat.le_refl _) _
    rw [show PP.cntT (.node k num nm kids) 0 = 1000 from by simp [PP.cntT]]
    clear h hbd
    go_enter Tryd.func12, Tryd.ntmps12
    go_wp2_with fail
    go_ret
    exact ⟨rfl, hb⟩
  | succ d ih =>
    intro w Z A kids k num nm c h hbd hd
    obtain ⟨_, _, _, hnm, hkl, hbl⟩ := hbd
    unfold maxLen at hnm hkl
    have hb : Below w.heap.size w (w.alloc (.cells #[.int .u8 (k : Int), .int .i64 num, .string ⟨nm.toArray⟩, .slice A kids.length c] 24)) := (Below.refl _ _).alloc (Nat.le_refl _) _
    have hblk := Blk.new w 24 #[.int .u8 (k : Int), .int .i64 num, .string ⟨nm.toArray⟩, .slice A kids.length c]
    have hsz : (⟨nm.toArray⟩ : ByteArray).size = nm.length := by simp [ByteArray.size]
    have z0 : (((d : Int) + 1) == 0) = false := by simp; omega
    by_cases hlong : 40 < nm.length
    · rw [show PP.cntT (.node k num nm kids) (d + 1) = 1000 from by simp [PP.cntT, hlong]]
      clear h hbl ih hblk hsz
      go_enter Tryd.func12, Tryd.ntmps12
      go_wp2_with fail
      go_ret
      exact ⟨rfl, hb⟩
    · have hcv : PP.cntT (.node k num nm kids) (d + 1) = PP.cntL kids d 1 := by simp [PP.cntT, hlong]
      rw [hcv]
      have HH := Lib.hid h
      have HIH := Lib.hid ih
      have HBL := Lib.hid hbl
      have HB := Lib.hid hb
      have HBK := Lib.hid hblk
      clear h hbl ih hblk hb hcv hsz
      go_enter Tryd.func12, Tryd.ntmps12
      go_wp2_with fail
      generalize w.alloc (.cells #[.int .u8 (k : Int), .int .i64 num, .string ⟨nm.toArray⟩, .slice A kids.length c] 24) = w6 at *
      go_loopw [5, 6] (fun s i wr => CntRel kids d w6 s i wr) (fun _ i _ => kids.length - (intOf i).toNat)
      case atStart => exact ⟨0, 1, Nat.zero_le _, rfl, rfl, by simp, by omega, Below.refl _ _⟩
      case round =>
        obtain ⟨j, m, hj, rfl, rfl, hcnt, hm, hbr⟩ := hrel
        have HCN := Lib.hid hcnt
        have hyb : Blk wr w.heap.size 24 #[.int .u8 (k : Int), .int .i64 num, .string ⟨nm.toArray⟩, .slice A kids.length c] := (hbr.block _ (Blk.lt HBK.out)).trans HBK.out
        obtain ⟨y0, y1, y2, y3⟩ := hyb.four.1
        have hylt := Nat.lt_of_lt_of_le (Blk.lt HBK.out) hbr.size
        clear hcnt hyb
        by_cases hlt : j < kids.length
        · by_cases hs : m < 1000
          · have hne : kids ≠ [] := by intro e; rw [e] at hlt; simp at hlt
            have hbW := HB.out.trans (hbr.mono HB.out.size)
            obtain ⟨g, o, rfl, _, hg, hat⟩ := HH.out.at_ hne
            obtain ⟨k1, num1, nm1, A1, c1, ks1, ht, ⟨x0, x1, x2, x3⟩, hk1⟩ := hat j _ (List.getElem?_eq_getElem hlt)
            have hkj : kids[j]? = some (.node k1 num1 nm1 ks1) := by rw [List.getElem?_eq_getElem hlt, ht]
            have d0 := (hbW.cell (p := ⟨g, o + j * 4, none⟩) hg).trans x0
            have d1 := (hbW.cell (p := ⟨g, o + j * 4 + 1, none⟩) hg).trans x1
            have d2 := (hbW.cell (p := ⟨g, o + j * 4 + 2, none⟩) hg).trans x2
            have d3 := (hbW.cell (p := ⟨g, o + j * 4 + 3, none⟩) hg).trans x3
            have hgv : g < wr.heap.size := Nat.lt_of_lt_of_le hg hbW.size
            have HC := Lib.hid (HIH.out _ _ _ _ _ _ _ c1 (hk1.keep ⟨hbW.size, fun g _ hg => hbW.block g hg⟩) (PP.bdL_at HBL.out hkj) (by omega))
            have HD := Lib.hid (PP.cntL_drop hkj (d := d) hs)
            have hcl := PP.cntT_le (.node k1 num1 nm1 ks1) d
            have p1 : (0 : Int) ≤ (j : Int) := by omega
            have p2 : (j : Int) < (kids.length : Int) := by omega
            clear hat ht hkj hk1 x0 x1 x2 x3 hne hbW
            go_wp2_with fail
            refine HC.out.mono ?_
            rintro e w2 ⟨rfl, hb2⟩
            have HB2 := Lib.hid (hbr.trans (hb2.mono hbr.size))
            clear hb2 d0 d1 d2 d3 HC y0 y1 y2 y3
            go_wp2_with fail
            go_roundw
            case rel =>
              have hrr : ∀ s i, i = Value.int .i64 (((j + 1 : Nat)) : Int) → s = Value.int .i64 ((m + PP.cntT (.node k1 num1 nm1 ks1) d : Nat) : Int) → CntRel kids d w6 s i w2 := fun s i hi hs' => ⟨j + 1, _, by omega, hi, hs', by rw [HCN.out, HD.out], by omega, HB2.out⟩
              first | exact hrr _ _ (by go_num) (by go_num) | ((repeat apply Exists.intro); exact ⟨hrr _ _ (by go_num) (by go_num), rfl⟩)
            case measure => simp [intOf]; omega
          · have HE := Lib.hid (PP.cntL_stop (l := kids.drop j) (d := d) hs)
            go_wp2_with fail
            go_ret
            exact ⟨by rw [HCN.out, HE.out]; rfl, HB.out.trans (hbr.mono HB.out.size)⟩
        · have HE := Lib.hid (show PP.cntL (kids.drop j) d m = m by rw [List.drop_eq_nil_of_le (by omega)]; rfl)
          go_wp2_with fail
          go_ret
          exact ⟨by rw [HCN.out, HE.out]; rfl, HB.out.trans (hbr.mono HB.out.size)⟩
theorem small_any {w : World} {Z : Nat → Prop} {A : Option Addr} {kids : List Tree} {k : Nat} {num : Int} {nm : List UInt8} {c : Nat} (h : KidsC w Z A kids) (hbd : PP.bdT (.node k num nm kids)) :
    Calls Tryd.prog 5 #[.agg #[.int .u8 (k : Int), .int .i64 num, .string ⟨nm.toArray⟩, .slice A kids.length c]] w fun e w' => e = .returned (.bool (decide (PP.cntT (.node k num nm kids) 20 ≤ 500))) ∧ Below w.heap.size w w' := by
  have hb : Below w.heap.size w (w.alloc (.cells #[.int .u8 (k : Int), .int .i64 num, .string ⟨nm.toArray⟩, .slice A kids.length c] 24)) := (Below.refl _ _).alloc (Nat.le_refl _) _
  have HC := Lib.hid (count14_any 20 _ _ _ _ _ _ _ c (h.keep ⟨hb.size, fun g _ hg => hb.block g hg⟩) hbd (by decide))
  have hle := PP.cntT_le (.node k num nm kids) 20
  clear h hbd
  go_enter Tryd.func5, Tryd.ntmps5
  go_wp2_with fail
  refine HC.out.mono ?_
  rintro e w2 ⟨rfl, hb2⟩
  go_wp2_with fail
  go_ret
  exact ⟨by simp; omega, hb.trans (hb2.mono hb.size)⟩
end
end Go.Proofs.YtkeehpgnljieeaaDoor
