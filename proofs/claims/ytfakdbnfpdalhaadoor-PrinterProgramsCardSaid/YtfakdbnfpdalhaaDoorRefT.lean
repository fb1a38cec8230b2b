/- The contracts of the reference printer's tabs, braces and Lines. -/
import Derived.Test.YtfakdbnfpdalhaaDoorRefR
import Derived.Test.YtfakdbnfpdalhaaDoorPrF
namespace Go.Proofs.YtfakdbnfpdalhaaDoor
open Go.RowKit
open PP (Tree)
/-- The contract of the reference's Stmt at a tree. -/
def RStmtOk (t : Tree) : Prop := ∀ (w : World) (B : Nat) (k : Nat) (num : Int) (nm : List UInt8) (A : Option Addr) (c : Nat) (kids : List Tree) (i : Nat), t = .node k num nm kids → KidsC w (· < B) A kids → B ≤ w.heap.size → i + t.depth ≤ 1000000 → (PP.prS t i).length ≤ 1000000000000 →
  Calls Tryd.prog 36 #[.agg #[.int .u8 (k : Int), .int .i64 num, .string ⟨nm.toArray⟩, .slice A kids.length c], .int .i64 (i : Int)] w fun e w' => e = .returned (.string ⟨(PP.prS t i).toArray⟩) ∧ Below w.heap.size w w'
/-- The contract of the reference's Lines at a tree. -/
def RLinesOk (t : Tree) : Prop := ∀ (w : World) (B : Nat) (k : Nat) (num : Int) (nm : List UInt8) (A : Option Addr) (c : Nat) (kids : List Tree) (i : Nat), t = .node k num nm kids → KidsC w (· < B) A kids → B ≤ w.heap.size → i + t.depth ≤ 1000000 → (PP.prB t i).length ≤ 1000000000000 →
  Calls Tryd.prog 15 #[.agg #[.int .u8 (k : Int), .int .i64 num, .string ⟨nm.toArray⟩, .slice A kids.length c], .int .i64 (i : Int)] w fun e w' => e = .returned (.string ⟨(PP.prB t i).toArray⟩) ∧ Below w.heap.size w w'
def bracesP (t : Tree) (i : Nat) : List UInt8 := [123, 10] ++ PP.prB t (i + 1) ++ PP.tabs i ++ [125]
theorem Blk.belowT {w w' : World} {g : Nat} {t : TypeId} {cs : Array Value} (h : Blk w g t cs) (hb : Below w.heap.size w w') : Blk w' g t cs := (hb.block g h.lt).trans h
theorem tabs_len (i : Nat) : (PP.tabs i).length = i := by simp [PP.tabs]
theorem tabs_succ (j : Nat) : PP.tabs (j + 1) = PP.tabs j ++ [9] := by simp [PP.tabs, List.replicate_succ']
theorem str_of {a : ByteArray} {l : List UInt8} (h : a.data.toList = l) : a = ⟨l.toArray⟩ := by
  subst h; rfl
section
set_option maxHeartbeats 2000000
set_option maxRecDepth 100000
theorem tabs14 (n : Nat) (w : World) (hn : n ≤ 1000000000000) : Calls Tryd.prog 71 #[.int .i64 (n : Int)] w fun e w' => e = .returned (.string ⟨(PP.tabs n).toArray⟩) ∧ w = w' := by
  go_enter Tryd.func71, Tryd.ntmps71
  go_wp2_with fail
  go_loopw [3, 4] (fun s i wr => ∃ (j : Nat) (T : ByteArray), j ≤ n ∧ i = .int .i64 (j : Int) ∧ s = .string T ∧ T.data.toList = PP.tabs j ∧ w = wr) (fun _ i _ => n - (intOf i).toNat)
  case atStart => exact ⟨0, _, Nat.zero_le _, rfl, rfl, rfl, rfl⟩
  case round =>
    obtain ⟨j, T, hj, rfl, rfl, hT, rfl⟩ := hrel
    have hs : T.size = j := by
      have hl : T.data.toList.length = T.size := Array.length_toList
      rw [hT, tabs_len] at hl
      exact hl.symm
    have HT := Lib.hid hT
    clear hT
    by_cases hlt : j < n
    · have p2 : (j : Int) < (n : Int) := by omega
      go_wp2_with fail
      go_roundw
      case rel => exact ⟨j + 1, _, by omega, by go_num, rfl, by rw [tabs_succ, ByteArray.data_append, Array.toList_append, HT.out], trivial⟩
      case measure => simp [intOf]; omega
    · have p2 : ¬ (j : Int) < (n : Int) := by omega
      obtain rfl : j = n := by omega
      go_wp2_with fail
      go_ret
      exact ⟨str_eq HT.out, rfl⟩
theorem braces14 {t : Tree} (hL : RLinesOk t) (w : World) (B : Nat) (k : Nat) (num : Int) (nm : List UInt8) (A : Option Addr) (c : Nat) (kids : List Tree) (i : Nat) (ht : t = .node k num nm kids) (hk : KidsC w (· < B) A kids) (hB : B ≤ w.heap.size) (hi : i + 1 + t.depth ≤ 1000000) (hlen : (bracesP t i).length ≤ 1000000000000) :
    Calls Tryd.prog 70 #[.agg #[.int .u8 (k : Int), .int .i64 num, .string ⟨nm.toArray⟩, .slice A kids.length c], .int .i64 (i : Int)] w fun e w' => e = .returned (.string ⟨(bracesP t i).toArray⟩) ∧ Below w.heap.size w w' := by
  have hb : Below w.heap.size w (w.alloc (.cells #[.int .u8 (k : Int), .int .i64 num, .string ⟨nm.toArray⟩, .slice A kids.length c] 24)) := (Below.refl _ _).alloc (Nat.le_refl _) _
  have HB := Lib.hid hb
  unfold bracesP at hlen ⊢
  have hlen' := hlen
  simp only [List.length_append, tabs_len] at hlen'
  have HC := Lib.hid (hL _ B k num nm A c kids (i + 1) ht (hk.keep ⟨hb.size, fun _ hg _ => hb.block _ (Nat.lt_of_lt_of_le hg hB)⟩) (Nat.le_trans hB hb.size) hi (by omega))
  have hs1 := size_mk (PP.prB t (i + 1))
  have hs2 := size_mk (PP.tabs i)
  rw [tabs_len] at hs2
  have HTA : Hid ((⟨(PP.prB t (i + 1)).toArray⟩ : ByteArray).data.toList = PP.prB t (i + 1)) := Lib.hid rfl
  have HTB : Hid ((⟨(PP.tabs i).toArray⟩ : ByteArray).data.toList = PP.tabs i) := Lib.hid rfl
  have HT := Lib.hid (fun w => tabs14 i w (by omega))
  have q : ((i + 1 : Nat) : Int) = (i : Int) + 1 := by omega
  rw [q] at HC
  generalize (⟨(PP.prB t (i + 1)).toArray⟩ : ByteArray) = TA at hs1 HC HTA
  generalize (⟨(PP.tabs i).toArray⟩ : ByteArray) = TB at hs2 HT HTB
  clear hL hk hb hlen ht q
  go_enter Tryd.func70, Tryd.ntmps70
  go_wp2_with fail
  refine HC.out.mono ?_
  rintro e w1 ⟨rfl, hb1⟩
  have HB1 := Lib.hid (HB.out.trans (hb1.mono HB.out.size))
  clear hb1
  go_wp2_with fail
  refine (HT.out _).mono ?_
  rintro e w2 ⟨rfl, rfl⟩
  go_wp2_with fail
  go_ret
  exact ⟨str_eq (by simp [ByteArray.data_append, HTA.out, HTB.out]), HB1.out⟩
theorem lines14 {kids : List Tree} {num : Int} {nm : List UInt8} {k : Nat} (hS : ∀ t ∈ kids, RStmtOk t) (hn : kids.length ≤ 1000000) : RLinesOk (.node k num nm kids) := by
  intro w B k' num' nm' A c kids' i ht hk hB hi hlen
  injection ht with e1 e2 e3 e4
  subst e1 e2 e3 e4
  simp only [PP.prB] at hlen ⊢
  have hb : Below w.heap.size w (w.alloc (.cells #[.int .u8 (k : Int), .int .i64 num, .string ⟨nm.toArray⟩, .slice A kids.length c] 24)) := (Below.refl _ _).alloc (Nat.le_refl _) _
  have hblk := Blk.new w 24 #[.int .u8 (k : Int), .int .i64 num, .string ⟨nm.toArray⟩, .slice A kids.length c]
  have HK := Lib.hid (hk.keep (w' := w.alloc (.cells #[.int .u8 (k : Int), .int .i64 num, .string ⟨nm.toArray⟩, .slice A kids.length c] 24)) ⟨hb.size, fun _ hg _ => hb.block _ (Nat.lt_of_lt_of_le hg hB)⟩)
  have HB := Lib.hid hb
  have HBK := Lib.hid hblk
  have HS := Lib.hid hS
  clear hk hb hblk hS
  go_enter Tryd.func15, Tryd.ntmps15
  go_wp2_with fail
  generalize w.alloc (.cells #[.int .u8 (k : Int), .int .i64 num, .string ⟨nm.toArray⟩, .slice A kids.length c] 24) = w3 at *
  go_loopw [5, 6] (fun s i' wr => ∃ (j : Nat) (T : ByteArray), j ≤ kids.length ∧ i' = .int .i64 (j : Int) ∧ s = .string T ∧ T.data.toList = PP.prL (kids.take j) i ∧ Below w3.heap.size w3 wr) (fun _ i' _ => kids.length - (intOf i').toNat)
  case atStart => exact ⟨0, _, Nat.zero_le _, rfl, rfl, by simp [PP.prL], Below.refl _ _⟩
  case round =>
    obtain ⟨j, T, hj, rfl, rfl, hT, hbr⟩ := hrel
    have hle0 := prL_le kids j i
    have hs : T.size ≤ 1000000000000 := by
      have hl : T.data.toList.length = T.size := Array.length_toList
      rw [hT] at hl
      omega
    have hBr := HBK.out.belowT hbr
    obtain ⟨x0, x1, x2, x3⟩ := hBr.four.1
    have hlb := hBr.lt
    have HT := Lib.hid hT
    have HBR := Lib.hid hbr
    have hB3 : B ≤ w3.heap.size := Nat.le_trans hB HB.out.size
    clear hT hBr hle0
    by_cases hlt : j < kids.length
    · have hne : kids ≠ [] := by intro e; rw [e] at hlt; simp at hlt
      obtain ⟨g, o, rfl, hg, _, hat⟩ := HK.out.at_ hne
      obtain ⟨k1, num1, nm1, A1, c1, ks1, htt, ⟨y0, y1, y2, y3⟩, hk1⟩ := hat j _ (List.getElem?_eq_getElem hlt)
      have hkj : kids[j]? = some (.node k1 num1 nm1 ks1) := by rw [List.getElem?_eq_getElem hlt, htt]
      have hgl : g < w3.heap.size := Nat.lt_of_lt_of_le hg hB3
      have d0 := (hbr.cell (p := ⟨g, o + j * 4, none⟩) hgl).trans y0
      have d1 := (hbr.cell (p := ⟨g, o + j * 4 + 1, none⟩) hgl).trans y1
      have d2 := (hbr.cell (p := ⟨g, o + j * 4 + 2, none⟩) hgl).trans y2
      have d3 := (hbr.cell (p := ⟨g, o + j * 4 + 3, none⟩) hgl).trans y3
      have hgv : g < wr.heap.size := Nat.lt_of_lt_of_le hgl hbr.size
      have hle := prL_le kids (j + 1) i
      rw [prL_take hkj, List.length_append] at hle
      have HTK := Lib.hid (prL_take hkj i)
      have hdep := depth_at hkj
      have hmem := List.mem_of_getElem? hkj
      have hi' : i + (Tree.node k1 num1 nm1 ks1).depth ≤ 1000000 := by
        simp only [PP.Tree.depth] at hi hdep ⊢
        omega
      have HC := Lib.hid (HS.out _ hmem wr B k1 num1 nm1 A1 c1 ks1 i rfl (hk1.keep ⟨hbr.size, fun _ hg _ => hbr.block _ (Nat.lt_of_lt_of_le hg hB3)⟩) (Nat.le_trans hB3 hbr.size) hi' (by omega))
      have hsz := size_mk (PP.prS (.node k1 num1 nm1 ks1) i)
      have hl1 : (PP.prS (.node k1 num1 nm1 ks1) i).length ≤ 1000000000000 := by omega
      have HTS : Hid ((⟨(PP.prS (.node k1 num1 nm1 ks1) i).toArray⟩ : ByteArray).data.toList = PP.prS (.node k1 num1 nm1 ks1) i) := Lib.hid rfl
      generalize (⟨(PP.prS (.node k1 num1 nm1 ks1) i).toArray⟩ : ByteArray) = TS at hsz HC HTS
      have p1 : (0 : Int) ≤ (j : Int) := by omega
      have p2 : (j : Int) < (kids.length : Int) := by omega
      clear hat htt hkj hk1 y0 y1 y2 y3 hne hbr hmem hle hdep hi' hgl
      go_wp2_with fail
      refine HC.out.mono ?_
      rintro e w4 ⟨rfl, hb4⟩
      have HB4 := Lib.hid (HBR.out.trans (hb4.mono HBR.out.size))
      clear hb4 d0 d1 d2 d3 HC x0 x1 x2 x3
      go_wp2_with fail
      go_roundw
      case rel => exact ⟨j + 1, _, by omega, by go_num, rfl, by rw [HTK.out, ByteArray.data_append, Array.toList_append, HT.out, HTS.out], HB4.out⟩
      case measure => simp [intOf]; omega
    · have p2 : ¬ (j : Int) < (kids.length : Int) := by omega
      have hall : kids.take j = kids := List.take_of_length_le (by omega)
      clear hbr
      go_wp2_with fail
      go_ret
      exact ⟨str_eq (by rw [HT.out, hall]), HB.out.trans (HBR.out.mono HB.out.size)⟩
end
end Go.Proofs.YtfakdbnfpdalhaaDoor
