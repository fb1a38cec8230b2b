/- ParserLevels: of two binary operators the one with the higher level binds more tightly. -/
import Derived.Test.YtaaaicpjlaeiiaaDoorKF
import Derived.Test.YtaaaicpjlaeiiaaDoorKA
namespace Go.Proofs.YtaaaicpjlaeiiaaDoor
open Go.RowKit Go.Maps
open PP (Tree ArrD TaskD ProgD)

theorem envOf_eq (s : ByteArray) : envOf s = PP.envL s.data.toList := by
  unfold envOf PP.envL
  rw [show s.data.toList.length = s.size from Array.length_toList]
theorem sigOf_eq (s : ByteArray) : sigOf s = PP.sigT s.data.toList := rfl
def lvBytes (i j : Nat) : ByteArray := (⟨#[120, 32]⟩ : ByteArray) ++ ⟨(PP.symbol (i + 6)).toArray⟩ ++ ⟨#[32, 45, 121, 32]⟩ ++ ⟨(PP.symbol (j + 6)).toArray⟩ ++ ⟨#[32, 122]⟩
theorem lvBytes_list (i j : Nat) : (lvBytes i j).data.toList = PP.lvText i j := by
  unfold lvBytes PP.lvText
  simp [ByteArray.data_append]
section
set_option maxHeartbeats 2000000
set_option maxRecDepth 100000
theorem levels_walk (a b : Nat) (w : World) (hg : SignsIs w) (hO : OpsIs w) (ha : a ≤ 255) (hb : b ≤ 255) :
    Calls Tryd.prog 6 #[.int .u8 (a : Int), .int .u8 (b : Int)] w fun e w' => e = .returned (.bool true) ∧ Below w.heap.size w w' := by
  have HG := Lib.hid hg
  have HO := Lib.hid hO
  have HA := Lib.hid (awake13_any w hg hO)
  have hnot : ∀ (x : Bool) (w : World), (Op.unary .not (.bool x)).run Tryd.prog w = .ok (.bool (!x)) w := fun _ _ => rfl
  clear hg hO
  go_enter Tryd.func6, Tryd.ntmps6
  go_wp2_with fail
  refine HA.out.mono ?_
  rintro e w1 ⟨rfl, hb1⟩
  have HB1 := Lib.hid hb1
  clear hb1 HA
  go_wp2_with fail
  refine (operators_any w1).mono ?_
  rintro e w2 ⟨v2, rfl, ho2, hb2⟩
  obtain ⟨g, cap, rfl, hg1, hg2, hg3, hcc⟩ := own_cells ho2 (by omega)
  have hB2 := Lib.hid (HB1.out.trans (hb2.mono HB1.out.size))
  have hi : a % 18 < 18 := Nat.mod_lt _ (by omega)
  have hj : b % 18 < 18 := Nat.mod_lt _ (by omega)
  have ci := hcc (a % 18) _ (opsCells_at 18 _ hi)
  have cj := hcc (b % 18) _ (opsCells_at 18 _ hj)
  have ta : (a : Int).tmod 18 = ((a % 18 : Nat) : Int) := by rw [Int.tmod_eq_emod_of_nonneg (by omega)]; rfl
  have tb : (b : Int).tmod 18 = ((b % 18 : Nat) : Int) := by rw [Int.tmod_eq_emod_of_nonneg (by omega)]; rfl
  have wa : IntKind.i64.wrap (a : Int) = (a : Int) := IntWalk.i64_in _ (by omega)
  have wb : IntKind.i64.wrap (b : Int) = (b : Int) := IntWalk.i64_in _ (by omega)
  generalize a % 18 = i at *
  generalize b % 18 = j at *
  have p1 : (0 : Int) ≤ (i : Int) := by omega
  have p2 : (i : Int) < 18 := by omega
  have p3 : (0 : Int) ≤ (j : Int) := by omega
  have p4 : (j : Int) < 18 := by omega
  clear hcc ho2 hb2
  go_wp2_with fail
  go_quiet (fail)
  go_wp2_with fail
  have HSY := Lib.hid (fun (op : Nat) (W : World) (hop : op ≤ 255) (hb : Below w.heap.size w W) => symbol_any op W (HO.out.below hb) hop)
  have hB3 : Below w.heap.size w (w2.drewN nq) := below_drewN hB2.out nq
  have HB3 := Lib.hid hB3
  obtain ⟨σ, t, hq, herr, ht1, ht2⟩ := PP.lv_expr hi hj
  have hq' : PP.exprP (envOf (lvBytes i j)) 40 (sigOf (lvBytes i j)) = some (σ, t) := by rw [envOf_eq, sigOf_eq, lvBytes_list]; exact hq
  have hlb : (lvBytes i j).size ≤ maxLen := by
    have h1 : ∀ k, k < 18 → (PP.symbol (k + 6)).length ≤ 2 := by decide
    have h2 := h1 i hi
    have h3 := h1 j hj
    rw [Lib.size_eq, lvBytes_list]
    unfold PP.lvText maxLen
    simp only [List.length_append, List.length_cons, List.length_nil]
    omega
  have hex := expr_at (lvBytes i j) (w2.drewN nq) hlb (HG.out.below hB3 HG.out.pos) (HO.out.below hB3) hq'
  rw [show (PP.out PP.zeroT (σ, t)) = (t, 0, 0) from by unfold PP.out; rw [if_pos (by exact herr)]] at hex
  have hsi := HSY.out (i + 6) (w2.drewN nq) (by omega) hB3
  have hsj := HSY.out (j + 6) (w2.drewN nq) (by omega) hB3
  unfold lvBytes at hex
  have sz1 : (⟨(PP.symbol (i + 6)).toArray⟩ : ByteArray).size ≤ 2 := by
    have h1 : ∀ k, k < 18 → (PP.symbol (k + 6)).length ≤ 2 := by decide
    have h2 := h1 i hi
    rw [Lib.size_eq]; exact h2
  have sz2 : (⟨(PP.symbol (j + 6)).toArray⟩ : ByteArray).size ≤ 2 := by
    have h1 : ∀ k, k < 18 → (PP.symbol (k + 6)).length ≤ 2 := by decide
    have h2 := h1 j hj
    rw [Lib.size_eq]; exact h2
  generalize (⟨(PP.symbol (i + 6)).toArray⟩ : ByteArray) = si at *
  generalize (⟨(PP.symbol (j + 6)).toArray⟩ : ByteArray) = sj at *
  have HSI := Lib.hid (show Calls Tryd.prog 29 #[.int .u8 ((i : Int) + 6)] (w2.drewN nq) _ from hsi)
  have HSJ := Lib.hid (show Calls Tryd.prog 29 #[.int .u8 ((j : Int) + 6)] (w2.drewN nq) _ from hsj)
  have HEX := Lib.hid hex
  have HT := Lib.hid (And.intro ht1 ht2)
  clear hB3 hq hq' hlb hex ht1 ht2 herr hsi hsj
  refine HSI.out.mono ?_
  rintro e w3 ⟨rfl, rfl⟩
  go_wp2_with fail
  refine HSJ.out.mono ?_
  rintro e w3 ⟨rfl, rfl⟩
  clear ci cj ta tb wa wb p1 p2 p3 p4
  go_wp2_with fail
  refine HEX.out.mono ?_
  rintro e w4 ⟨vv, rfl, hN, hb4⟩
  have hB4 : Below w.heap.size w w4 := HB3.out.trans (hb4.mono HB3.out.size)
  obtain ⟨ht1, ht2⟩ := HT.out
  clear hb4 HEX HSY HT HSI HSJ sz1 sz2
  by_cases hl : PP.level (i + 6) < PP.level (j + 6)
  · have e1 : decide ((PP.level (i + 6) : Int) < (PP.level (j + 6) : Int)) = true := by simp; omega
    have e2 : decide (PP.level (i + 6) < PP.level (j + 6)) = true := by simp; omega
    obtain ⟨n, m, x, kk2, n2, m2, x3, ks, v, rfl⟩ := ht1 hl
    obtain ⟨g4, o4, c4, k1, num1, nm1, A1, c1, ks1, k2, num2, nm2, A2, c2, ks2, rfl, hgl, hz, h1, h2, ⟨x0, x1, x2, x3'⟩, ⟨y0, y1, y2, y3'⟩, hk1, hk2⟩ := NodeV.two hN
    injection h2 with f1 f2 f3 f4
    subst f1 f2 f3 f4
    obtain ⟨g5, o5, rfl, hz5, hg5, hat5⟩ := hk2.at_ (by simp)
    obtain ⟨k6, num6, nm6, A6, c6, ks6, h6, ⟨d0, _, _, _⟩, _⟩ := hat5 0 (.node 4 kk2 x3 ks) rfl
    injection h6 with h6 _ _ _
    subst h6
    have d0' : w4.cell? ⟨g5, o5, none⟩ = some (.int .u8 4) := by simpa using d0
    have u1 : ((i : Int) + 6 == (i : Int) + 6) = true := by simp
    have u2 : ((j : Int) + 6 == (j : Int) + 6) = true := by simp
    have hp5 : (0 : Int) ≤ 1 := by omega
    have HLV := Lib.hid (fun (op : Nat) (W : World) (hop : op ≤ 255) (hb : Below w.heap.size w W) => level_any op W (HO.out.below hb) hop)
    have HB4 := Lib.hid hB4
    clear hB4 hN hk1 hk2 hat5 hl d0
    go_wp2_with fail
    refine ((show Calls Tryd.prog 30 #[.int .u8 ((j : Int) + 6)] _ _ from HLV.out (j + 6) _ (by omega) (HB4.out.alloc HB4.out.size _))).mono ?_
    rintro e w5 ⟨rfl, rfl⟩
    go_wp2_with fail
    refine ((show Calls Tryd.prog 30 #[.int .u8 ((i : Int) + 6)] _ _ from HLV.out (i + 6) _ (by omega) (HB4.out.alloc HB4.out.size _))).mono ?_
    rintro e w5 ⟨rfl, rfl⟩
    go_wp2_with fail
    go_ret
    exact ⟨rfl, (HB4.out.alloc HB4.out.size _).alloc (by have := HB4.out.size; simp; omega) _⟩
  · have e1 : decide ((PP.level (i + 6) : Int) < (PP.level (j + 6) : Int)) = false := by simp; omega
    have e2 : decide (PP.level (i + 6) < PP.level (j + 6)) = false := by simp; omega
    obtain ⟨n, m, x, kk2, n2, m2, x3, ks, v, rfl⟩ := ht2 hl
    obtain ⟨g4, o4, c4, k1, num1, nm1, A1, c1, ks1, k2, num2, nm2, A2, c2, ks2, rfl, hgl, hz, h1, h2, ⟨x0, x1, x2, x3'⟩, ⟨y0, y1, y2, y3'⟩, hk1, hk2⟩ := NodeV.two hN
    injection h1 with f1 f2 f3 f4
    subst f1 f2 f3 f4
    obtain ⟨g5, o5, rfl, hz5, hg5, hat5⟩ := hk1.at_ (by simp)
    obtain ⟨k6, num6, nm6, A6, c6, ks6, h6, ⟨d0, _, _, _⟩, _⟩ := hat5 1 (.node 4 kk2 x3 ks) rfl
    injection h6 with h6 _ _ _
    subst h6
    have d0' : w4.cell? ⟨g5, o5 + 4, none⟩ = some (.int .u8 4) := by simpa using d0
    have u1 : ((i : Int) + 6 == (i : Int) + 6) = true := by simp
    have u2 : ((j : Int) + 6 == (j : Int) + 6) = true := by simp
    have hp5 : (0 : Int) ≤ 1 := by omega
    have HLV := Lib.hid (fun (op : Nat) (W : World) (hop : op ≤ 255) (hb : Below w.heap.size w W) => level_any op W (HO.out.below hb) hop)
    have HB4 := Lib.hid hB4
    clear hB4 hN hk1 hk2 hat5 hl d0
    go_wp2_with fail
    refine ((show Calls Tryd.prog 30 #[.int .u8 ((j : Int) + 6)] _ _ from HLV.out (j + 6) _ (by omega) (HB4.out.alloc HB4.out.size _))).mono ?_
    rintro e w5 ⟨rfl, rfl⟩
    go_wp2_with fail
    refine ((show Calls Tryd.prog 30 #[.int .u8 ((i : Int) + 6)] _ _ from HLV.out (i + 6) _ (by omega) (HB4.out.alloc HB4.out.size _))).mono ?_
    rintro e w5 ⟨rfl, rfl⟩
    go_wp2_with fail
    go_ret
    exact ⟨rfl, (HB4.out.alloc HB4.out.size _).alloc (by have := HB4.out.size; simp; omega) _⟩
end
end Go.Proofs.YtaaaicpjlaeiiaaDoor
