/- A line of a trace, read. -/
import Derived.Test.YtpmbhdheeaejgaaGreatDoorTrC
import Derived.Test.YtpmbhdheeaejgaaGreatDoorPlainTr3
import Derived.Test.YtpmbhdheeaejgaaGreatDoorAuC
import Derived.Deep.CutRange
namespace Go.Proofs.YtpmbhdheeaejgaaGreatDoor
open Go.RowKit Go.Maps Go.Sort Go.Lib
open AU (Ev)
abbrev tEv : TypeId := 26
theorem ev_result2 {fn : Func} {p q : Tmp} (h : fn.results = #[.cell p tEv, .tmp q]) {tmps : Array Value} {w : World} {g : Nat} {e : Ev} (hp : tmps.getD p undef = .pointer (some ⟨g, 0, none⟩)) (hb : Blk w g tEv (evV e)) :
    (results fn tmps).run Tryz.prog w = .ok (.tuple #[.agg (evV e), tmps.getD q undef]) w := by
  have hp' : tmps[p]?.getD undef = .pointer (some ⟨g, 0, none⟩) := by simpa using hp
  simp [results, h, hp', asAddr, run_loadVar_row w g tEv tEv (evV e) (0, 0) _ hb Tryz.underlying26 rfl (by kernel_rfl)]
theorem setF_cells {e : Ev} {j : Nat} {n : Int} (h : j < 8) (h2 : j ≠ 2) : (evV e).setIfInBounds (TR.off j) (.int .i64 n) = evV (TR.setF e j n) := by
  rcases TR.num_cases h h2 with rfl | rfl | rfl | rfl | rfl | rfl | rfl <;> rfl
theorem off_cell {e : Ev} {j : Nat} (h : j < 8) (h2 : j ≠ 2) : (evV e)[TR.off j]? = some (.int .i64 (TR.fld e j)) := by
  rcases TR.num_cases h h2 with rfl | rfl | rfl | rfl | rfl | rfl | rfl <;> rfl
def parseV (l : List UInt8) : Value := match TR.parseP l with
  | some e => .tuple #[.agg (evV e), .bool true]
  | none => .tuple #[.agg (evV TR.ev0), .bool false]
def ptrC (g : Nat) : Array Value := #[.pointer (some ⟨g, 0, none⟩), .pointer (some ⟨g, 6, none⟩), .pointer none, .pointer (some ⟨g, 2, none⟩), .pointer (some ⟨g, 3, none⟩), .pointer (some ⟨g, 1, none⟩), .pointer (some ⟨g, 5, none⟩), .pointer (some ⟨g, 7, none⟩)]
theorem ptr_cell {g j : Nat} (h : j < 8) (h2 : j ≠ 2) : (ptrC g)[j]? = some (.pointer (some ⟨g, TR.off j, none⟩)) := by
  rcases TR.num_cases h h2 with rfl | rfl | rfl | rfl | rfl | rfl | rfl <;> rfl
theorem frozen8 {W : World} {g : Nat} {cs : Array Value} (h : Blk W g tEv cs) : W.frozen? ⟨g, 0, none⟩ = false ∧ W.frozen? ⟨g, 1, none⟩ = false ∧ W.frozen? ⟨g, 2, none⟩ = false ∧ W.frozen? ⟨g, 3, none⟩ = false ∧ W.frozen? ⟨g, 4, none⟩ = false ∧ W.frozen? ⟨g, 5, none⟩ = false ∧ W.frozen? ⟨g, 6, none⟩ = false ∧ W.frozen? ⟨g, 7, none⟩ = false :=
  ⟨h.frozen 0, h.frozen 1, h.frozen 2, h.frozen 3, h.frozen 4, h.frozen 5, h.frozen 6, h.frozen 7⟩
theorem ev_store {W : World} {g : Nat} {b0 b1 b2 b3 b4 b5 b6 b7 a0 a1 a2 a3 a4 a5 a6 a7 : Value} (h : Blk W g tEv #[b0, b1, b2, b3, b4, b5, b6, b7]) :
    Blk ((((((((W.setCell ⟨g, 0, none⟩ a0).setCell ⟨g, 1, none⟩ a1).setCell ⟨g, 2, none⟩ a2).setCell ⟨g, 3, none⟩ a3).setCell ⟨g, 4, none⟩ a4).setCell ⟨g, 5, none⟩ a5).setCell ⟨g, 6, none⟩ a6).setCell ⟨g, 7, none⟩ a7) g tEv #[a0, a1, a2, a3, a4, a5, a6, a7] := by
  have h0 : Blk _ g tEv #[a0, b1, b2, b3, b4, b5, b6, b7] := h.set_ 0 a0
  have h1 : Blk _ g tEv #[a0, a1, b2, b3, b4, b5, b6, b7] := h0.set_ 1 a1
  have h2 : Blk _ g tEv #[a0, a1, a2, b3, b4, b5, b6, b7] := h1.set_ 2 a2
  have h3 : Blk _ g tEv #[a0, a1, a2, a3, b4, b5, b6, b7] := h2.set_ 3 a3
  have h4 : Blk _ g tEv #[a0, a1, a2, a3, a4, b5, b6, b7] := h3.set_ 4 a4
  have h5 : Blk _ g tEv #[a0, a1, a2, a3, a4, a5, b6, b7] := h4.set_ 5 a5
  have h6 : Blk _ g tEv #[a0, a1, a2, a3, a4, a5, a6, b7] := h5.set_ 6 a6
  exact h6.set_ 7 a7
theorem ev_below {b : Nat} {w W : World} {g : Nat} {a0 a1 a2 a3 a4 a5 a6 a7 : Value} (h : Below b w W) (hg : b ≤ g) :
    Below b w ((((((((W.setCell ⟨g, 0, none⟩ a0).setCell ⟨g, 1, none⟩ a1).setCell ⟨g, 2, none⟩ a2).setCell ⟨g, 3, none⟩ a3).setCell ⟨g, 4, none⟩ a4).setCell ⟨g, 5, none⟩ a5).setCell ⟨g, 6, none⟩ a6).setCell ⟨g, 7, none⟩ a7) :=
  (((((((h.setCell (p := ⟨g, 0, none⟩) hg a0).setCell (p := ⟨g, 1, none⟩) hg a1).setCell (p := ⟨g, 2, none⟩) hg a2).setCell (p := ⟨g, 3, none⟩) hg a3).setCell (p := ⟨g, 4, none⟩) hg a4).setCell (p := ⟨g, 5, none⟩) hg a5).setCell (p := ⟨g, 6, none⟩) hg a6).setCell (p := ⟨g, 7, none⟩) hg a7
/-- Midway through the numbers of a line. -/
def NumRel (w : World) (g2 g4 gs gp : Nat) (L : List ByteArray) (F : Nat → List UInt8) (k : Nat) (v : Value) (W : World) : Prop :=
  ∃ (i : Nat) (e : Ev), i ≤ 8 ∧ v = .int .i64 (i : Int) ∧ TR.PartIs F k i e ∧ Blk W g4 tEv (evV e) ∧ Blk W g2 tEv (evV TR.ev0) ∧ Blk W gs 9 (L.map Value.string).toArray ∧ Blk W gp 67 (ptrC g4) ∧ Below w.heap.size w W
section
set_option maxHeartbeats 4000000
set_option maxRecDepth 100000
theorem parseL_any (l : List UInt8) (hs : l.length ≤ 1000000000) (w : World) (hT : TrIs w) :
    Calls Tryz.prog 13 #[.string ⟨l.toArray⟩] w fun e w' => e = .returned (parseV l) ∧ Below w.heap.size w w' := by
  have hz : (⟨l.toArray⟩ : ByteArray).size = l.length := by simp [ByteArray.size]
  have hr : evV TR.ev0 = #[.int .i64 0, .int .i64 0, .int .i64 0, .int .i64 0, .int .u8 0, .int .i64 0, .int .i64 0, .int .i64 0] := rfl
  have hb1 := ((Below.refl w.heap.size w).alloc (Nat.le_refl _) (.cells #[.int .i64 0, .int .i64 0, .int .i64 0, .int .i64 0, .int .u8 0, .int .i64 0, .int .i64 0, .int .i64 0] tEv)).alloc (by simp) (.cells #[.int .i64 0, .int .i64 0, .int .i64 0, .int .i64 0, .int .u8 0, .int .i64 0, .int .i64 0, .int .i64 0] tEv)
  have hk2 := (Blk.new w tEv #[.int .i64 0, .int .i64 0, .int .i64 0, .int .i64 0, .int .u8 0, .int .i64 0, .int .i64 0, .int .i64 0]).alloc (.cells #[.int .i64 0, .int .i64 0, .int .i64 0, .int .i64 0, .int .u8 0, .int .i64 0, .int .i64 0, .int .i64 0] tEv)
  have hk4 := blk_second w tEv tEv #[.int .i64 0, .int .i64 0, .int .i64 0, .int .i64 0, .int .u8 0, .int .i64 0, .int .i64 0, .int .i64 0] #[.int .i64 0, .int .i64 0, .int .i64 0, .int .i64 0, .int .u8 0, .int .i64 0, .int .i64 0, .int .i64 0]
  have HB1 := Lib.hid hb1
  have HK2 := Lib.hid hk2
  have HK4 := Lib.hid hk4
  have HT := Lib.hid hT
  have hls := TR.parts_split 32 ⟨l.toArray⟩
  rw [show (⟨l.toArray⟩ : ByteArray).data.toList = l from rfl] at hls
  have hLn := TR.splitB_count 32 ⟨l.toArray⟩
  have hlen : ∀ f ∈ TR.parts 32 [] l, f.length ≤ 1000000000 := fun f hf => Nat.le_trans (TR.parts_len 32 l [] f hf) (by simpa using hs)
  obtain ⟨R, hR⟩ : ∃ R, R = parseV l := ⟨_, rfl⟩
  have hpn : (TR.parts 32 [] l).length ≠ 8 → R = .tuple #[.agg (evV TR.ev0), .bool false] := fun h => by rw [hR]; unfold parseV; rw [TR.parse_not8 h]
  have hp8 : (TR.parts 32 [] l).length = 8 → R = match (TR.kindP ((TR.parts 32 [] l).getD 2 [])).bind fun k => TR.mkP k ((TR.parts 32 [] l).getD 0 []) ((TR.parts 32 [] l).getD 1 []) ((TR.parts 32 [] l).getD 3 []) ((TR.parts 32 [] l).getD 4 []) ((TR.parts 32 [] l).getD 5 []) ((TR.parts 32 [] l).getD 6 []) ((TR.parts 32 [] l).getD 7 []) with
      | some e => .tuple #[.agg (evV e), .bool true]
      | none => .tuple #[.agg (evV TR.ev0), .bool false] := fun h => by rw [hR]; unfold parseV; rw [TR.parse_8 h]
  obtain ⟨m1, hm1, _⟩ := (hT.below hb1).max
  have HSP := Lib.hid (Tryz.strings_Split ⟨l.toArray⟩ ⟨#[32]⟩ m1 _ (by omega) hm1 (by decide))
  generalize hL : Lib.splitB ⟨#[32]⟩ 0 (Lib.countB ⟨l.toArray⟩ ⟨#[32]⟩) ⟨l.toArray⟩ = L at *
  rw [← hLn] at HSP
  rw [← hls] at hpn hp8 hlen
  have hll : (TR.bts L).length = L.length := by simp [TR.bts]
  rw [hll] at hpn hp8
  rw [← hR]
  have HPN := Lib.hid hpn
  have HP8 := Lib.hid hp8
  have HLE := Lib.hid hlen
  have HL32 := Lib.hid (show L.length ≤ 1000000001 by
    have := TR.parts_count 32 l []
    rw [← hls, hll] at this
    omega)
  clear hb1 hk2 hk4 hT hm1 hL hls hLn hz hR hpn hp8 hlen hll
  go_enter Tryz.func13, Tryz.ntmps13
  go_upto_region 2 with fail
  generalize hw1 : (w.alloc (.cells #[.int .i64 0, .int .i64 0, .int .i64 0, .int .i64 0, .int .u8 0, .int .i64 0, .int .i64 0, .int .i64 0] _)).alloc (.cells #[.int .i64 0, .int .i64 0, .int .i64 0, .int .i64 0, .int .u8 0, .int .i64 0, .int .i64 0, .int .i64 0] _) = w1
  rw [show (w.alloc (.cells #[.int .i64 0, .int .i64 0, .int .i64 0, .int .i64 0, .int .u8 0, .int .i64 0, .int .i64 0, .int .i64 0] tEv)).alloc (.cells #[.int .i64 0, .int .i64 0, .int .i64 0, .int .i64 0, .int .u8 0, .int .i64 0, .int .i64 0, .int .i64 0] tEv) = w1 from hw1] at HB1 HK2 HK4 HSP
  clear hw1
  have HG := Lib.hid (show w.heap.size ≤ w.heap.size ∧ w.heap.size ≤ w.heap.size + 1 ∧ w.heap.size ≠ w.heap.size + 1 from ⟨Nat.le_refl _, by omega, by omega⟩)
  generalize hg2 : w.heap.size = g2 at HK2 HG ⊢
  generalize hg4 : g2 + 1 = g4 at HK4 HG ⊢
  rw [hg2, hg4] at HK4
  go_wp2_with fail
  refine HSP.out.mono ?_
  rintro e w2 ⟨rfl, rfl⟩
  have hal := (Below.refl w1.heap.size w1).alloc (Nat.le_refl _) (.cells (L.map Value.string).toArray 9)
  have HB2 := Lib.hid (HB1.out.trans (hal.mono HB1.out.size))
  have HK22 := Lib.hid (HK2.out.below hal)
  have HK42 := Lib.hid (HK4.out.below hal)
  have HKS := Lib.hid (Blk.new w1 9 (L.map Value.string).toArray)
  generalize hw2 : w1.alloc (.cells (L.map Value.string).toArray 9) = w2 at *
  clear hal HSP HK2 HK4 hw2
  generalize w1.heap.size = gs at *
  by_cases h8 : L.length = 8
  · have n8 : ((L.length : Int) != 8) = false := by simp [h8]
    have hp8 := HP8.out h8
    have hf : ∀ j, j < 8 → ∃ f : List UInt8, L[j]? = some ⟨f.toArray⟩ ∧ f = (TR.bts L).getD j [] ∧ f.length ≤ 1000000000 := fun j hj => by
      obtain ⟨x, hx⟩ : ∃ x, L[j]? = some x := ⟨_, List.getElem?_eq_getElem (by omega)⟩
      have hg : (TR.bts L)[j]? = some x.data.toList := by unfold TR.bts; rw [List.getElem?_map, hx]; rfl
      refine ⟨x.data.toList, by rw [hx], ?_, HLE.out _ (List.mem_of_getElem? hg)⟩
      rw [List.getD_eq_getElem?_getD, hg]
      rfl
    have HF := Lib.hid hf
    have hcs : ∀ j, j < 8 → ∀ W, Blk W gs 9 (L.map Value.string).toArray → W.cell? ⟨gs, j, none⟩ = some (.string ⟨((TR.bts L).getD j []).toArray⟩) := fun j hj W hW => by
      obtain ⟨f, h1, h2, _⟩ := hf j hj
      rw [hW.cell j, ← h2]
      simp [h1]
    have HCS := Lib.hid hcs
    have HFL := Lib.hid (show ∀ j, j < 8 → ((TR.bts L).getD j []).length ≤ 1000000000 from fun j hj => by
      obtain ⟨f, _, h2, h3⟩ := hf j hj
      rw [← h2]; exact h3)
    clear hf hcs HPN HP8 HLE HL32 HF
    generalize hF : (fun j => (TR.bts L).getD j []) = F at *
    have HFe := Lib.hid (show ∀ j, (TR.bts L).getD j [] = F j from fun j => congrFun hF j)
    simp only [HFe.out] at hp8 HCS HFL
    clear hF HFe
    have HR8 := Lib.hid hp8
    clear hp8
    have c2 := HCS.out 2 (by omega) _ HKS.out
    have HKI := Lib.hid (kind_any ⟨(F 2).toArray⟩ w2)
    rw [show (⟨(F 2).toArray⟩ : ByteArray).data.toList = F 2 from rfl] at HKI
    have q8 : (2 : Int) < (L.length : Int) := by omega
    go_wp2_with fail
    refine HKI.out.mono ?_
    rintro e w3 ⟨rfl, hb3⟩
    have HB3 := Lib.hid (HB2.out.trans (hb3.mono HB2.out.size))
    have HK23 := Lib.hid (HK22.out.below hb3)
    have HK43 := Lib.hid (HK42.out.below hb3)
    have HKS3 := Lib.hid (HKS.out.below hb3)
    clear hb3 HKI c2
    unfold kindV
    have x4 := HK43.out.cell 4
    have f4 := HK43.out.frozen 4
    simp only [List.getElem?_toArray, List.getElem?_cons_zero, List.getElem?_cons_succ] at x4
    cases hk : TR.kindP (F 2) with
    | none =>
      have HRR := Lib.hid (show R = .tuple #[.agg (evV TR.ev0), .bool false] by rw [HR8.out, hk]; rfl)
      clear hk HR8
      simp only
      have HK44 := Lib.hid (show Blk (w3.setCell ⟨g4, 4, none⟩ (.int .u8 0)) g2 tEv #[.int .i64 0, .int .i64 0, .int .i64 0, .int .i64 0, .int .u8 0, .int .i64 0, .int .i64 0, .int .i64 0] from HK23.out.far (p := ⟨g4, 4, none⟩) HG.out.2.2 _)
      have HB4 := Lib.hid (HB3.out.setCell (p := ⟨g4, 4, none⟩) (by rw [hg2]; exact HG.out.2.1) (.int .u8 0))
      go_upto_region 7 with fail
      generalize hw4 : w3.setCell ⟨g4, 4, none⟩ (.int .u8 0) = w4 at *
      clear hw4 x4 f4
      obtain ⟨y0, y1, y2, y3, y4, y5, y6, y7⟩ := HK44.out.eight
      obtain ⟨z0, z1, z2, z3, z4, z5, z6, z7⟩ := frozen8 HK44.out
      go_wp2_with fail
      refine bodyPost_ret (ev_result2 (e := TR.ev0) rfl rfl (ev_store HK44.out)) rfl ?_
      exact ⟨by rw [HRR.out]; rfl, ev_below HB4.out (by rw [hg2]; exact Nat.le_refl _)⟩
    | some k =>
      have HRR := Lib.hid (show R = match TR.mkP k (F 0) (F 1) (F 3) (F 4) (F 5) (F 6) (F 7) with
        | some e => .tuple #[.agg (evV e), .bool true]
        | none => .tuple #[.agg (evV TR.ev0), .bool false] by rw [HR8.out, hk]; rfl)
      clear hk HR8
      simp only
      have HK24 := Lib.hid (show Blk (w3.setCell ⟨g4, 4, none⟩ (.int .u8 (k : Int))) g2 tEv (evV TR.ev0) from HK23.out.far (p := ⟨g4, 4, none⟩) HG.out.2.2 _)
      have HK44 := Lib.hid (show Blk (w3.setCell ⟨g4, 4, none⟩ (.int .u8 (k : Int))) g4 tEv (evV { TR.ev0 with kind := k }) from HK43.out.set_ 4 (.int .u8 (k : Int)))
      have HKS4 := Lib.hid (show Blk (w3.setCell ⟨g4, 4, none⟩ (.int .u8 (k : Int))) gs 9 (L.map Value.string).toArray from HKS3.out.far (p := ⟨g4, 4, none⟩) (blk_ne HKS3.out HK43.out (by decide)) _)
      have HB4 := Lib.hid (HB3.out.setCell (p := ⟨g4, 4, none⟩) (by rw [hg2]; exact HG.out.2.1) (.int .u8 (k : Int)))
      clear HK22 HK42 HKS HK23 HKS3 HB3 HB2 HB1
      go_upto_region 7 with fail
      generalize hw4 : w3.setCell ⟨g4, 4, none⟩ (.int .u8 (k : Int)) = w4 at *
      clear hw4 x4 f4 HK43
      have hal := (Below.refl w4.heap.size w4).alloc (Nat.le_refl _) (.cells (ptrC g4) 67)
      have HST := Lib.hid (show NumRel w g2 g4 gs w4.heap.size L F k (.int .i64 0) (w4.alloc (.cells (ptrC g4) 67)) from ⟨0, _, Nat.zero_le _, rfl, ⟨rfl, fun j hj => by omega⟩, HK44.out.below hal, HK24.out.below hal, HKS4.out.below hal, Blk.new w4 _ _, HB4.out.trans (hal.mono HB4.out.size)⟩)
      have HTW := Lib.hid (HT.out)
      clear hal HK24 HK44 HKS4
      rw [show ptrC g4 = #[.pointer (some ⟨g4, 0, none⟩), .pointer (some ⟨g4, 6, none⟩), .pointer none, .pointer (some ⟨g4, 2, none⟩), .pointer (some ⟨g4, 3, none⟩), .pointer (some ⟨g4, 1, none⟩), .pointer (some ⟨g4, 5, none⟩), .pointer (some ⟨g4, 7, none⟩)] from rfl] at HST
      go_upto_region 10 with fail
      generalize hw5 : w4.alloc (.cells #[.pointer (some ⟨g4, 0, none⟩), .pointer (some ⟨g4, 6, none⟩), .pointer none, .pointer (some ⟨g4, 2, none⟩), .pointer (some ⟨g4, 3, none⟩), .pointer (some ⟨g4, 1, none⟩), .pointer (some ⟨g4, 5, none⟩), .pointer (some ⟨g4, 7, none⟩)] _) = w5 at *
      clear hw5
      generalize w4.heap.size = gp at *
      go_wp2_with fail
      go_loopw [37] (fun v wr => NumRel w g2 g4 gs gp L F k v wr) (fun v _ => 8 - (intOf v).toNat)
      case atStart => exact HST.out
      case round =>
        obtain ⟨i, e, hi, rfl, hpt, hk4, hk2, hks, hkp, hbw⟩ := hrel
        have HPT := Lib.hid hpt
        have HK4 := Lib.hid hk4
        have HK2 := Lib.hid hk2
        have HKS := Lib.hid hks
        have HKP := Lib.hid hkp
        have HBW := Lib.hid hbw
        clear HST hpt hk4 hk2 hks hkp hbw
        by_cases hi8 : i < 8
        · have q0 : (i : Int) < 8 := by omega
          by_cases hi2 : i = 2
          · subst hi2
            have p2 := HKP.out.cell 2
            rw [show (ptrC g4)[2]? = some (.pointer none) from rfl] at p2
            go_wp2_with fail
            exact ⟨⟨3, e, by omega, rfl, HPT.out.skip, HK4.out, HK2.out, HKS.out, HKP.out, HBW.out⟩, by simp [intOf]⟩
          · have pi := (HKP.out.cell i).trans (ptr_cell hi8 hi2)
            have ci := HCS.out i hi8 _ HKS.out
            have HN := Lib.hid (number_any (F i) (HFL.out i hi8) wr (HTW.out.below HBW.out))
            have q8 : (i : Int) < (L.length : Int) := by omega
            go_wp2_with fail
            refine HN.out.mono ?_
            rintro e' w6 ⟨rfl, hb6⟩
            have HK46 := Lib.hid (HK4.out.below hb6)
            have HK26 := Lib.hid (HK2.out.below hb6)
            have HKS6 := Lib.hid (HKS.out.below hb6)
            have HKP6 := Lib.hid (HKP.out.below hb6)
            have HB6 := Lib.hid (HBW.out.trans (hb6.mono HBW.out.size))
            have x4 := (HK46.out.cell (TR.off i)).trans (off_cell hi8 hi2)
            have f4 := HK46.out.frozen (TR.off i)
            clear hb6 HN HK4 HK2 HKS HKP HBW pi ci
            unfold numV
            cases hn : TR.numP (F i) with
            | none =>
              have HRZ := Lib.hid (show R = .tuple #[.agg (evV TR.ev0), .bool false] by rw [HRR.out, TR.mk_none hi8 hi2 hn])
              simp only
              have HK27 := Lib.hid (show Blk (w6.setCell ⟨g4, TR.off i, none⟩ (.int .i64 0)) g2 tEv #[.int .i64 0, .int .i64 0, .int .i64 0, .int .i64 0, .int .u8 0, .int .i64 0, .int .i64 0, .int .i64 0] from HK26.out.far (p := ⟨g4, TR.off i, none⟩) HG.out.2.2 _)
              have HB7 := Lib.hid (HB6.out.setCell (p := ⟨g4, TR.off i, none⟩) (by rw [hg2]; exact HG.out.2.1) (.int .i64 0))
              clear hn HRR HK46 HK26 HKS6 HKP6 HB6 HPT
              go_upto_region 15 with fail
              generalize hw7 : w6.setCell ⟨g4, TR.off i, none⟩ (.int .i64 0) = w7 at *
              clear hw7 x4 f4
              obtain ⟨y0, y1, y2, y3, y4, y5, y6, y7⟩ := HK27.out.eight
              obtain ⟨z0, z1, z2, z3, z4, z5, z6, z7⟩ := frozen8 HK27.out
              go_wp2_with fail
              refine bodyPost_ret (ev_result2 (e := TR.ev0) rfl rfl (ev_store HK27.out)) rfl ?_
              exact ⟨by rw [HRZ.out]; rfl, ev_below HB7.out (by rw [hg2]; exact Nat.le_refl _)⟩
            | some nn =>
              have HP2 := Lib.hid (HPT.out.step hi8 hi2 hn)
              simp only
              have HK47 := Lib.hid (show Blk (w6.setCell ⟨g4, TR.off i, none⟩ (.int .i64 nn)) g4 tEv (evV (TR.setF e i nn)) by
                have := HK46.out.set_ (TR.off i) (.int .i64 nn)
                rw [setF_cells hi8 hi2] at this
                exact this)
              have HK27 := Lib.hid (HK26.out.far (p := ⟨g4, TR.off i, none⟩) HG.out.2.2 (.int .i64 nn))
              have HKS7 := Lib.hid (HKS6.out.far (p := ⟨g4, TR.off i, none⟩) (blk_ne HKS6.out HK46.out (by decide)) (.int .i64 nn))
              have HKP7 := Lib.hid (HKP6.out.far (p := ⟨g4, TR.off i, none⟩) (blk_ne HKP6.out HK46.out (by decide)) (.int .i64 nn))
              have HB7 := Lib.hid (HB6.out.setCell (p := ⟨g4, TR.off i, none⟩) (by rw [hg2]; exact HG.out.2.1) (.int .i64 nn))
              clear hn HRR HK46 HK26 HKS6 HKP6 HB6 HPT
              go_upto_region 15 with fail
              generalize hw7 : w6.setCell ⟨g4, TR.off i, none⟩ (.int .i64 nn) = w7 at *
              clear hw7 x4 f4
              go_wp2_with fail
              exact ⟨⟨i + 1, _, by omega, by simp, HP2.out, HK47.out, HK27.out, HKS7.out, HKP7.out, HB7.out⟩, by simp [intOf]; omega⟩
        · have q0 : ¬ (i : Int) < 8 := by omega
          obtain rfl : i = 8 := by omega
          have HRZ := Lib.hid (show R = .tuple #[.agg (evV e), .bool true] by rw [HRR.out, HPT.out.done])
          have h4 := HK4.out
          unfold evV at h4
          obtain ⟨x0, x1, x2, x3, x4, x5, x6, x7⟩ := h4.eight
          obtain ⟨y0, y1, y2, y3, y4, y5, y6, y7⟩ := HK2.out.eight
          obtain ⟨z0, z1, z2, z3, z4, z5, z6, z7⟩ := frozen8 HK2.out
          clear h4 HRR HPT
          go_wp2_with fail
          refine bodyPost_ret (ev_result2 (e := e) rfl rfl (ev_store HK2.out)) rfl ?_
          exact ⟨by rw [HRZ.out]; rfl, by have hq := HBW.out; rw [hg2] at hq; exact ev_below hq (Nat.le_refl _)⟩
  · have n8 : ((L.length : Int) != 8) = true := by simp; omega
    have HRR := Lib.hid (HPN.out h8)
    obtain ⟨x0, x1, x2, x3, x4, x5, x6, x7⟩ := HK42.out.eight
    obtain ⟨y0, y1, y2, y3, y4, y5, y6, y7⟩ := HK22.out.eight
    obtain ⟨z0, z1, z2, z3, z4, z5, z6, z7⟩ := frozen8 HK22.out
    clear HPN HP8 HLE h8
    go_wp2_with fail
    refine bodyPost_ret (ev_result2 (e := TR.ev0) rfl rfl (ev_store HK22.out)) rfl ?_
    exact ⟨by rw [HRR.out]; rfl, ev_below HB2.out (by rw [hg2]; exact Nat.le_refl _)⟩
end
end Go.Proofs.YtpmbhdheeaejgaaGreatDoor
