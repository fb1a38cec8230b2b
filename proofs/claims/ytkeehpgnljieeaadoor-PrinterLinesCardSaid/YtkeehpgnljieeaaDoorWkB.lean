/- ast.Walk: its iterator hands every node on, a node before its children. -/
import Derived.Test.YtkeehpgnljieeaaDoorWkA
import Derived.Test.YtkeehpgnljieeaaDoorValB
import Derived.Test.YtkeehpgnljieeaaDoorShelf
import Derived.RangeFuncNested
import Derived.RangeFuncBound
import Derived.RangeFuncCalls
import Derived.RangeFuncLeaves
import Derived.Shelf.Abstract
import Derived.Shelf.RegionOpen
import Derived.WalkKit
import Derived.OwnWalkIn
import Derived.TacticsInMore
import Derived.LoopNIn
import Derived.LoopIn
import Derived.Deep.RegionLawGrows
namespace Go.Proofs.YtkeehpgnljieeaaDoor
open Go.RowKit Go.Maps Go.Shelf
open PP (Tree)
/-- What a round is handed. -/
structure YArg where
  p : Value
  k : Nat
  num : Int
  nm : List UInt8
  A : Option Addr
  len : Nat
  c : Nat
def YArg.encs (x : YArg) : Array Value := #[x.p, .agg #[.int .u8 (x.k : Int), .int .i64 x.num, .string ⟨x.nm.toArray⟩, .slice x.A x.len x.c]]
/-- All cells but those of one block lie as they lay. -/
def KpC (B : Nat) (W W' : World) : Prop := W.heap.size ≤ W'.heap.size ∧ ∀ g o, g ≠ B → W.heap[g]? = some o → o.isCells = true → W'.heap[g]? = some o
theorem KpC.refl (B : Nat) (W : World) : KpC B W W := ⟨Nat.le_refl _, fun _ _ _ h _ => h⟩
theorem KpC.trans {B : Nat} {W W' W'' : World} (h : KpC B W W') (k : KpC B W' W'') : KpC B W W'' := ⟨Nat.le_trans h.1 k.1, fun g o hg ho hc => k.2 g o hg (h.2 g o hg ho hc) hc⟩
theorem KpC.below {B : Nat} {W W' : World} (h : Below W.heap.size W W') : KpC B W W' := ⟨h.size, fun g _ _ ho _ => (h.block g (Array.getElem?_eq_some_iff.1 ho).1).trans ho⟩
theorem KpC.alloc (B : Nat) (W : World) (o : Obj) : KpC B W (W.alloc o) := KpC.below ((Below.refl _ _).alloc (Nat.le_refl _) o)
theorem KpC.set (W : World) (p : Addr) (u : Value) : KpC p.block W (W.setCell p u) := ⟨by simp [World.setCell], fun g _ hg ho _ => (Below.heap_setCell W p u g hg).trans ho⟩
theorem KpC.put (B : Nat) (W : World) (l : Nat) (o o' : Obj) (h : W.heap[l]? = some o) (hc : o.isCells = false) : KpC B W (W.putObj l o') := by
  refine ⟨(grownBy_putObj' W l o').size, fun g x _ hx hxc => ?_⟩
  refine ((grownBy_putObj' W l o').block g (Array.getElem?_eq_some_iff.1 hx).1 ?_).trans hx
  intro e; injection e with e; subst e
  rw [hx] at h; injection h with h; subst h
  rw [hc] at hxc; cases hxc
theorem Blk.kpc {B : Nat} {w w' : World} {g : Nat} {t : TypeId} {cs : Array Value} (h : Blk w g t cs) (k : KpC B w w') (hg : g ≠ B) : Blk w' g t cs := k.2 g _ hg h rfl
theorem cells_of_cell {w : World} {a : Addr} {v : Value} (h : w.cell? a = some v) : ∃ o, w.heap[a.block]? = some o ∧ o.isCells = true := by
  unfold World.cell? at h
  cases ho : w.heap[a.block]? with
  | none => rw [ho] at h; cases h
  | some o =>
    cases o with
    | cells cs t fr => exact ⟨_, rfl, rfl⟩
    | _ => rw [ho] at h; cases h
theorem KpC.cell {B : Nat} {w w' : World} {a : Addr} {v : Value} (k : KpC B w w') (h : w.cell? a = some v) (ha : a.block ≠ B) : w'.cell? a = some v := by
  obtain ⟨o, ho, hc⟩ := cells_of_cell h
  exact (World.cell?_of_block ((k.2 _ o ha ho hc).trans ho.symm)).trans h
theorem KidsC.kpc {B : Nat} {w w' : World} {Z : Nat → Prop} (hZ : ¬ Z B) {A : Option Addr} {kids : List Tree} (h : KidsC w Z A kids) (k : KpC B w w') : KidsC w' Z A kids := by
  induction h with
  | mk A kids g o K N S AA C KS hA hk hc _ ih =>
    refine .mk A kids g o K N S AA C KS (fun hn => ?_) hk (fun i hi => ?_) ih
    · obtain ⟨h1, h2, h3⟩ := hA hn
      exact ⟨h1, h2, Nat.lt_of_lt_of_le h3 k.1⟩
    · obtain ⟨_, h2, h3⟩ := hA (by rintro rfl; simp at hi)
      have hg : g ≠ B := by rintro rfl; exact hZ h2
      obtain ⟨c0, c1, c2, c3⟩ := hc i hi
      exact ⟨k.cell c0 hg, k.cell c1 hg, k.cell c2 hg, k.cell c3 hg⟩
/-- A path: a slice of ints. -/
def PathIs (B : Nat) (W : World) (v : Value) (n : Nat) : Prop := ∃ (b : Nat) (zs : List Int) (c : Nat), v = .slice (some ⟨b, 0, none⟩) n c ∧ n ≤ c ∧ zs.length = n ∧ b ≠ B ∧ ∀ j, j < zs.length → W.cell? ⟨b, 0 + j, none⟩ = some (.int .i64 (zs.getD j 0))
theorem PathIs.kpc {B : Nat} {W W' : World} {v : Value} {n : Nat} (h : PathIs B W v n) (k : KpC B W W') : PathIs B W' v n := by
  obtain ⟨b, zs, c, rfl, hcc, hl, hb, hc⟩ := h
  exact ⟨b, zs, c, rfl, hcc, hl, hb, fun j hj => k.cell (hc j hj) hb⟩
mutual
def kindsT : Tree → List Nat
  | .node k _ _ kids => k :: kindsL kids
def kindsL : List Tree → List Nat
  | [] => []
  | t :: ts => kindsT t ++ kindsL ts
end
theorem kindsL_snoc (l : List Tree) (t : Tree) : kindsL (l ++ [t]) = kindsL l ++ kindsT t := by
  induction l with
  | nil => simp [kindsL]
  | cons a l ih => simp [kindsL, ih]
mutual
theorem kindsT_len : ∀ t : Tree, (kindsT t).length = t.size
  | .node _ _ _ kids => by simp only [kindsT, List.length_cons, PP.Tree.size, kindsL_len kids]; omega
theorem kindsL_len : ∀ l : List Tree, (kindsL l).length = PP.sizeL l
  | [] => rfl
  | t :: ts => by simp only [kindsL, List.length_append, PP.sizeL, kindsT_len t, kindsL_len ts]
end
theorem walk_depth {l : List Tree} {t : Tree} (h : t ∈ l) : t.depth ≤ PP.depthL l := by
  induction l with
  | nil => cases h
  | cons a l ih =>
    simp only [PP.depthL]
    rcases List.mem_cons.1 h with rfl | h
    · omega
    · have := ih h; omega
theorem len_size (l : List Tree) : l.length ≤ PP.sizeL l := by
  induction l with
  | nil => simp
  | cons a l ih => simp only [PP.sizeL, List.length_cons]; cases a; simp only [PP.Tree.size]; omega
theorem abides_below {B : Nat} {J : List YArg → World → Prop} (hJ : AbidesFrom B J) {s : List YArg} {W W' : World} (h : J s W) (hb : Below W.heap.size W W') : J s W' :=
  hJ s W W' none h ⟨hb.os, hb.tape, hb.output, hb.size, fun k hk _ => hb.block k hk⟩ (fun r e => by cases e)
section
set_option maxHeartbeats 2000000
set_option maxRecDepth 100000
attribute [local go_sem ↓] Go.wp_at_zero Go.wp_at_succ
theorem clip_any (A : Option Addr) (n c : Nat) (w : World) (h : n ≤ c) : Calls Tryd.prog 20 #[.slice A n c] w fun e w' => e = .returned (.slice A n n) ∧ w' = w := by
  go_enter Tryd.func20, Tryd.ntmps20
  go_wp2_with fail
  go_ret
  exact ⟨rfl, rfl⟩
theorem cell_below {w w' : World} {a : Addr} {v : Value} (h : w.cell? a = some v) (hb : Below w.heap.size w w') : w'.cell? a = w.cell? a := World.cell?_of_block (hb.block _ (World.block_lt_of_cell? w a h))
theorem below_drew1 {B : Nat} {w w' : World} (h : Below B w w') : Below B w w'.drew := ⟨h.os, h.tape, h.output, h.size, h.block⟩
theorem below_undrew {B : Nat} {w w' : World} (h : Below B w.drew w') : Below B w w' := ⟨h.os, h.tape, h.output, h.size, h.block⟩
theorem clonep_any {B : Nat} {W : World} {pv : Value} {n : Nat} (h : PathIs B W pv n) (hn : n ≤ 1000000) : Calls Tryd.prog 19 #[pv] W fun e w' => ∃ v', e = .returned v' ∧ Below W.heap.size W w' := by
  obtain ⟨b, zs, c, rfl, _, hl, hb, hc⟩ := h
  refine (Tryd.slices_Clone_int b 0 n c zs W (by omega) (by omega) hc).mono ?_
  rintro e w' ⟨v', h1, _, _, h2⟩
  exact ⟨v', h1, h2⟩
abbrev tYw : TypeId := 47
abbrev tVw : TypeId := 48
variable {l B yb vb B0 : Nat} {N : Nat} {J Jx : List YArg → World → Prop}
/-- The two variables that the visit closes over. -/
structure VBox (l B yb vb : Nat) (W : World) : Prop where
  y : Blk W yb tYw #[.func (.yield l) #[] #[]]
  v : Blk W vb tVw #[.func (.func 18) #[] #[.pointer (some ⟨yb, 0, none⟩), .pointer (some ⟨vb, 0, none⟩)]]
  yB : yb ≠ B
  vB : vb ≠ B
  lt : B < W.heap.size
theorem VBox.kpc {l B yb vb : Nat} {W W' : World} (h : VBox l B yb vb W) (k : KpC B W W') : VBox l B yb vb W' := ⟨h.y.kpc k h.yB, h.v.kpc k h.vB, h.yB, h.vB, Nat.lt_of_lt_of_le h.lt k.1⟩
/-- How a visit ends. -/
def VEnd (B : Nat) (J Jx : List YArg → World → Prop) (ks : List Nat) (pre : List YArg) (W : World) (e : Ending) (W' : World) : Prop :=
  ∃ b : Bool, e = .returned (.bool b) ∧ (b = true → ∃ xs : List YArg, xs.map (·.k) = ks ∧ J (pre ++ xs) W' ∧ KpC B W W') ∧ (b = false → ∃ q, Jx q W')
/-- The rounds. -/
def Rounds (l B N : Nat) (J Jx : List YArg → World → Prop) : Prop := ∀ m pre x W, J pre W → pre.length < N → YieldAt Fence.wide m Tryd.prog l x.encs W fun e W' =>
  ∃ b : Bool, e = .returned (.bool b) ∧ (b = true → J (pre ++ [x]) W' ∧ KpC B W W') ∧ (b = false → Jx (pre ++ [x]) W')
/-- What the region with the round leaves. -/
def VCut (B : Nat) (J Jx : List YArg → World → Prop) (k : Nat) (pre : List YArg) (w0 : World) (a0 a1 a2 a3 a4 : Value) : Exit → Act → World → Prop
  | .normal, a, W' => ∃ (v9 v10 v11 v12 v13 : Value) (b : Bool), a = { tmps := #[a0, a1, a2, a3, a4, undef, .bool false, undef, undef, v9, v10, v11, v12, v13, .bool b, .bool (!b), undef, undef, undef, undef, undef, undef, undef, undef, undef, undef, undef, undef, undef, undef, undef, undef, undef, undef], defers := [] } ∧
      (b = true → ∃ x : YArg, x.k = k ∧ J (pre ++ [x]) W' ∧ KpC B w0 W') ∧ (b = false → ∃ q, Jx q W')
  | _, _, _ => False
theorem path_of_own {w : World} {base : Nat} {v : Value} {m : Nat} {zs : List Int} (h : w.ownsRow base 3 1 v (m + 1) (zs.map (Value.int .i64))) (hB : B < base) (hz : zs.length = m + 1) : PathIs B w v (m + 1) := by
  obtain ⟨g, cap, hv, hg, _, hle, hc⟩ := own_cells h (by omega)
  refine ⟨g, zs, cap, hv, hle, hz, by omega, fun j hj => ?_⟩
  · have := hc j (.int .i64 (zs.getD j 0)) (by rw [List.getElem?_map, List.getElem?_eq_getElem hj, List.getD_eq_getElem?_getD, List.getElem?_eq_getElem hj]; rfl)
    simpa using this
theorem infoIntW : (Tryd.prog.info? 3).map (fun i => (i.zero, i.size, i.bytes)) = some (some (.int .i64 0), 1, 8) := by kernel_rfl
/-- What the region with the inner visit leaves. -/
def VCut2 (B : Nat) (J Jx : List YArg → World → Prop) (ks : List Nat) (pre : List YArg) (w0 : World) (P : List Value) (u : Value) : Exit → Act → World → Prop
  | .normal, a, W' => ∃ (v24 v25 v26 v27 v28 v29 v30 : Value) (b : Bool), a = { tmps := (P ++ [v24, v25, v26, v27, v28, v29, v30, .bool b, .bool (!b), u]).toArray, defers := [] } ∧
      (b = true → ∃ ys : List YArg, ys.map (·.k) = ks ∧ J (pre ++ ys) W' ∧ KpC B w0 W') ∧ (b = false → ∃ q, Jx q W')
  | _, _, _ => False
theorem KpC.drew (B : Nat) (W : World) : KpC B W W.drew := ⟨Nat.le_refl _, fun _ _ _ h _ => h⟩
theorem KpC.grown {B : Nat} {W W' : World} (h : W.grownBy W' none) : KpC B W W' := ⟨h.size, fun g _ _ ho _ => (h.block g (Array.getElem?_eq_some_iff.1 ho).1 (by simp)).trans ho⟩
theorem below_grown {W W' : World} (h : W.grownBy W' none) : Below W.heap.size W W' := ⟨h.os, h.tape, h.output, h.size, fun k hk => h.block k hk (by simp)⟩
/-- What one round of the visit's loop comes to. -/
def VRel (B : Nat) (J : List YArg → World → Prop) (k : Nat) (kids : List Tree) (pre : List YArg) (w0 : World) (i : Value) (wr : World) : Prop :=
  ∃ (j : Nat) (xs : List YArg), j ≤ kids.length ∧ i = .int .i64 (j : Int) ∧ xs.map (·.k) = k :: kindsL (kids.take j) ∧ J (pre ++ xs) wr ∧ KpC B w0 wr
theorem visit_kids {w : World} {Z : Nat → Prop} (hZ : ¬ Z B) (hJ : AbidesFrom B0 J) (hJx : ∀ q W, ¬ Jx q W) (hY : Rounds l B N J Jx) {A : Option Addr} {kids : List Tree} (h : KidsC w Z A kids) :
    ∀ W, KpC B w W → VBox l B yb vb W → ∀ (k : Nat) (num : Int) (nm : List UInt8) (c : Nat) (pv : Value) (n : Nat) (pre : List YArg), PathIs B W pv n → n + (Tree.node k num nm kids).depth ≤ 1000000 → J pre W → pre.length + (Tree.node k num nm kids).size ≤ N → (Tree.node k num nm kids).size ≤ 1000000 →
      Calls Tryd.prog 18 #[.agg #[.int .u8 (k : Int), .int .i64 num, .string ⟨nm.toArray⟩, .slice A kids.length c], pv, .pointer (some ⟨yb, 0, none⟩), .pointer (some ⟨vb, 0, none⟩)] W (VEnd B J Jx (kindsT (.node k num nm kids)) pre W) := by
  induction h with
  | mk A kids g o K N' S AA C KS hA hk hc hh ih =>
    intro W hW hV k num nm c pv n pre hP hn hj hN hsz
    have HIH := Lib.hid ih
    have HKP := Lib.hid hW
    have HV := Lib.hid hV
    have HHK := Lib.hid hk
    have HHC := Lib.hid hc
    have HHA := Lib.hid hA
    have HP := Lib.hid hP
    have HJJ := Lib.hid hj
    have HN := Lib.hid hn
    have HNN := Lib.hid hN
    have HSZ := Lib.hid hsz
    have hkids : KidsC W Z A kids := KidsC.kpc hZ (.mk A kids g o K N' S AA C KS hA hk hc hh) hW
    have HKK := Lib.hid hkids
    clear ih hW hV hk hc hh hA hP hj hn hN hsz hkids
    generalize hw0 : W.alloc (.cells #[.int .u8 (k : Int), .int .i64 num, .string ⟨nm.toArray⟩, .slice A kids.length c] 24) = w0
    have hb0 : Below W.heap.size W w0 := by rw [← hw0]; exact (Below.refl _ _).alloc (Nat.le_refl _) _
    have hB : Blk w0 W.heap.size 24 #[.int .u8 (k : Int), .int .i64 num, .string ⟨nm.toArray⟩, .slice A kids.length c] := by rw [← hw0]; exact Blk.new _ _ _
    have HW0 := Lib.hid hw0
    clear hw0
    go_enter Tryd.func18, Tryd.ntmps18
    go_wp2_with fail
    rw [HW0.out]
    refine (wpIn_wide (n := 9)).1 ?_
    have HC1 := Lib.hid (show ∀ V, Below W.heap.size W V → Calls Tryd.prog 19 #[pv] V fun e w' => ∃ v', e = .returned v' ∧ Below V.heap.size V w' from fun V hV => clonep_any (HP.out.kpc (KpC.below hV)) (by have := HN.out; omega))
    have HC2 := Lib.hid (show ∀ V, Below W.heap.size W V → Calls Tryd.prog 16 #[.agg #[.int .u8 (k : Int), .int .i64 num, .string ⟨nm.toArray⟩, .slice A kids.length c]] V fun e w' =>
      ∃ A' c', e = .returned (.agg #[.int .u8 (k : Int), .int .i64 num, .string ⟨nm.toArray⟩, .slice A' kids.length c']) ∧ KidsC w' (V.heap.size ≤ ·) A' kids ∧ Below V.heap.size V w' from
        fun V hV => clone_kids HKK.out V ⟨hV.size, fun g hg hlt => hV.block g hlt⟩ k num nm c (by have := HSZ.out; simp only [PP.Tree.size] at this; omega))
    have HYY := Lib.hid (show ∀ V, Below W.heap.size W V → ∀ x : YArg, YieldAt Fence.wide (9 - 1) Tryd.prog l x.encs V fun e W' => ∃ b : Bool, e = .returned (.bool b) ∧ (b = true → J (pre ++ [x]) W' ∧ KpC B V W') ∧ (b = false → Jx (pre ++ [x]) W') from
      fun V hV x => hY _ pre x V (abides_below hJ HJJ.out hV) (by have := HNN.out; simp only [PP.Tree.size] at this; omega))
    have y0 : w0.cell? ⟨yb, 0, none⟩ = some (.func (.yield l) #[] #[]) := (Blk.below HV.out.y hb0).cell 0
    obtain ⟨x0, x1, x2, x3⟩ := hB.four.1
    have HB0 := Lib.hid hb0
    have hmix : Tryd.prog.follows .mixedOrders = true := by kernel_rfl
    clear hb0
    refine wpIn_mono (Q := VCut B J Jx k pre w0 (.agg #[.int .u8 (k : Int), .int .i64 num, .string ⟨nm.toArray⟩, .slice A kids.length c]) pv (.pointer (some ⟨yb, 0, none⟩)) (.pointer (some ⟨vb, 0, none⟩)) (.pointer (some ⟨W.heap.size, 0, none⟩))) ?_ ?_
    · gi_region_with_o (first
        | (refine ⟨trivial, ?_⟩; gi_at_call 19; refine (callsIn_wide.2 (HC1.out _ (below_drew1 HB0.out))).mono ?_; rintro e w1 ⟨v11, rfl, hb1'⟩; have hb1 := below_undrew hb1'; have HB1 := Lib.hid (HB0.out.trans (hb1.mono HB0.out.size)); have y1 := (cell_below y0 hb1).trans y0; obtain ⟨z0, z1, z2, z3⟩ := (Blk.below hB hb1).four.1)
        | (refine ⟨trivial, ?_⟩; gi_at_call 16; refine (callsIn_wide.2 (HC2.out _ HB1.out)).mono ?_; rintro e w2 ⟨A2, c2, rfl, hk2, hb2⟩; have HB2 := Lib.hid (HB1.out.trans (hb2.mono HB1.out.size)); have y2 := (cell_below y1 hb2).trans y1; obtain ⟨fn, tm, asg, bo, hy, hR⟩ := HYY.out _ HB2.out ⟨v11, k, num, nm, A2, kids.length, c2⟩; dsimp only [YArg.encs] at hy)
        | (refine RoundIn.mono hR ?_; clear hR; rintro e w3 ⟨b, rfl, hb3, hb4⟩))
      all_goals exact ⟨_, _, _, _, _, b, rfl, fun hb => ⟨⟨v11, k, num, nm, A2, kids.length, c2⟩, rfl, (hb3 hb).1, (KpC.below hb1).trans ((KpC.below hb2).trans (hb3 hb).2)⟩, fun hb => ⟨_, hb4 hb⟩⟩
    · clear HC1 HC2 HYY y0 x0 x1 x2 x3
      rintro e a w1 hcut
      cases e with
      | normal =>
        obtain ⟨v9, v10, v11, v12, v13, b, rfl, hb1, hb2⟩ := hcut
        cases b with
        | false =>
          obtain ⟨q, hq⟩ := hb2 rfl
          go_wp2_with fail
          go_ret
          exact ⟨false, rfl, fun h => (by cases h), fun _ => ⟨q, hq⟩⟩
        | true =>
          obtain ⟨x, hxk, hjx, hkp⟩ := hb1 rfl
          clear hb1 hb2
          have hB1 := Blk.kpc hB hkp (by have := HV.out.lt; omega)
          obtain ⟨x0, x1, x2, x3⟩ := hB1.four.1
          have HJX := Lib.hid hjx
          have HKX := Lib.hid hkp
          clear hjx hkp
          go_wp2_with fail
          go_loopw [19] (fun i wr => VRel B J k kids pre w0 i wr) (fun i _ => kids.length - (intOf i).toNat)
          case atStart => exact ⟨0, [x], Nat.zero_le _, rfl, by simp [hxk, kindsL], HJX.out, HKX.out⟩
          case round =>
            obtain ⟨j, xs, hj, rfl, hmap, hjr, hkr⟩ := hrel
            have HMAP := Lib.hid hmap
            have HJR := Lib.hid hjr
            have HKR := Lib.hid hkr
            clear hmap hjr hkr HJX HKX x0 x1 x2 x3
            by_cases hlt : j < kids.length
            · obtain ⟨hA1, hA2, hA3⟩ := HHA.out (by intro e; rw [e] at hlt; simp at hlt)
              obtain ⟨c0, c1, c2, c3⟩ := HHC.out j hlt
              have hgB : g ≠ B := by rintro rfl; exact hZ hA2
              have hkw : KpC B w wr := HKP.out.trans ((KpC.below HB0.out).trans HKR.out)
              have d0 := hkw.cell c0 hgB
              have d1 := hkw.cell c1 hgB
              have d2 := hkw.cell c2 hgB
              have d3 := hkw.cell c3 hgB
              have HKW := Lib.hid hkw
              subst hA1
              have p1 : (0 : Int) ≤ (j : Int) := by omega
              have p2 : (j : Int) < (kids.length : Int) := by omega
              obtain ⟨b, zs, c', rfl, hnc, hzl, hbB, hzc⟩ := HP.out
              have hkj := HHK.out j hlt
              have hxl : xs.length = 1 + PP.sizeL (kids.take j) := by
                have := congrArg List.length HMAP.out
                simp only [List.length_map, List.length_cons, kindsL_len] at this
                omega
              have hjs : PP.sizeL (kids.take (j + 1)) = PP.sizeL (kids.take j) + (Tree.node (K j) (N' j) (S j) (KS j)).size := by rw [take_at hkj, PP.sizeL_snoc]
              have hjl := PP.sizeL_take kids (j + 1)
              have hdp := walk_depth (List.mem_of_getElem? hkj)
              have hV6 : VBox l B yb vb wr := HV.out.kpc ((KpC.below HB0.out).trans HKR.out)
              have hvis := fun (V : World) (hkV : KpC B wr V) (hJV : J (pre ++ xs) V) (v' : Value) (hpv : PathIs B V v' (n + 1)) =>
                HIH.out j hlt V (HKW.out.trans hkV) (hV6.kpc hkV) (K j) (N' j) (S j) (C j) v' (n + 1) (pre ++ xs) hpv
                  (by have := HN.out; simp only [PP.Tree.depth] at this hdp ⊢; omega) hJV (by have := HNN.out; simp only [PP.Tree.size, List.length_append] at this hjs ⊢; omega) (by have := HSZ.out; simp only [PP.Tree.size] at this hjs ⊢; omega)
              have HVIS := Lib.hid hvis
              have HKJ := Lib.hid hkj
              have hsB : B < wr.heap.size := hV6.lt
              obtain ⟨i1, hi, hz0, hz1, hz2⟩ := info_parts infoIntW
              have HI := Lib.hid hi
              have HZ0 := Lib.hid hz0
              have HZ1 := Lib.hid hz1
              have HZ2 := Lib.hid hz2
              have HLO := Lib.hid (show (zs.map (Value.int .i64)).length = n * 1 from by simpa using hzl)
              have HZL := Lib.hid hzl
              have HNS := Lib.hid (show n ≤ 1000000 from by have := HN.out; omega)
              have HOLD := Lib.hid (show ∀ V, KpC B wr V → ∀ b', some (⟨b, 0, none⟩ : Addr) = some b' → ∀ i u, (zs.map (Value.int .i64))[i]? = some u → V.cell? (b'.add i) = some u from by
                intro V hV b' e i u hu
                injection e with e; subst e
                rw [List.getElem?_map] at hu
                cases hz : zs[i]? with
                | none => rw [hz] at hu; cases hu
                | some z =>
                  rw [hz] at hu; injection hu with hu; subst hu
                  have hlt' := (List.getElem?_eq_some_iff.1 hz).1
                  have := hV.cell (((KpC.below HB0.out).trans HKR.out).cell (hzc i hlt') hbB) hbB
                  rw [List.getD_eq_getElem?_getD, hz] at this
                  by_cases h0 : i = 0
                  · subst h0; simpa [Addr.add] using this
                  · simpa [Addr.add, h0] using this)
              have HVB := Lib.hid hV6.vB
              have HLEN := Lib.hid (show kids.length ≤ 1000000 from by have h1 := HSZ.out; have h2 := len_size kids; simp only [PP.Tree.size] at h1; omega)
              have HBV := Lib.hid (hV6.v.alloc (.cells #[.int .u8 (K j : Int), .int .i64 (N' j), .string ⟨(S j).toArray⟩, .slice (AA j) (KS j).length (C j)] 24))
              have HKB := Lib.hid (Blk.new wr 24 #[.int .u8 (K j : Int), .int .i64 (N' j), .string ⟨(S j).toArray⟩, .slice (AA j) (KS j).length (C j)])
              clear hkw c0 c1 c2 c3 hkj hxl hjs hjl hdp hV6 hvis hi hz0 hz1 hz2 hzl hzc
              go_wp2_with fail
              clear d0 d1 d2 d3
              have v0 : (wr.alloc (.cells #[.int .u8 (K j : Int), .int .i64 (N' j), .string ⟨(S j).toArray⟩, .slice (AA j) (KS j).length (C j)] 24)).cell? ⟨vb, 0, none⟩ = some (.func (.func 18) #[] #[.pointer (some ⟨yb, 0, none⟩), .pointer (some ⟨vb, 0, none⟩)]) := HBV.out.cell 0
              obtain ⟨k0, k1, k2, k3⟩ := HKB.out.four.1
              have HKW6 := Lib.hid (show KpC B wr (((wr.alloc (.cells #[.int .u8 (K j : Int), .int .i64 (N' j), .string ⟨(S j).toArray⟩, .slice (AA j) (KS j).length (C j)] 24)).alloc (.cells #[.int .i64 (j : Int)] 3)).drew) from ((KpC.alloc B wr _).trans (KpC.alloc B _ _)).trans (KpC.drew B _))
              have HNEW := Lib.hid (World.news_of_block (w := (((wr.alloc (.cells #[.int .u8 (K j : Int), .int .i64 (N' j), .string ⟨(S j).toArray⟩, .slice (AA j) (KS j).length (C j)] 24)).alloc (.cells #[.int .i64 (j : Int)] 3)).drew)) (B := wr.heap.size + 1) (cs := #[.int .i64 (j : Int)]) (t := 3) (fr := (0, 0)) (show (((wr.alloc (.cells #[.int .u8 (K j : Int), .int .i64 (N' j), .string ⟨(S j).toArray⟩, .slice (AA j) (KS j).length (C j)] 24)).alloc (.cells #[.int .i64 (j : Int)] 3)).heap[wr.heap.size + 1]? = _) from (by
                have h := heap_alloc_new (wr.alloc (.cells #[.int .u8 (K j : Int), .int .i64 (N' j), .string ⟨(S j).toArray⟩, .slice (AA j) (KS j).length (C j)] 24)) (.cells #[.int .i64 (j : Int)] 3)
                have e : (wr.alloc (.cells #[.int .u8 (K j : Int), .int .i64 (N' j), .string ⟨(S j).toArray⟩, .slice (AA j) (KS j).length (C j)] 24)).heap.size = wr.heap.size + 1 := Array.size_push ..
                rw [e] at h
                exact h)))
              have HB6 := Lib.hid (show Below wr.heap.size wr (((wr.alloc (.cells #[.int .u8 (K j : Int), .int .i64 (N' j), .string ⟨(S j).toArray⟩, .slice (AA j) (KS j).length (C j)] 24)).alloc (.cells #[.int .i64 (j : Int)] 3)).drew) from below_drew1 (((Below.refl _ _).alloc (Nat.le_refl _) _).alloc ((Below.refl wr.heap.size wr).alloc (Nat.le_refl _) _).size _))
              have HOLD6 := Lib.hid (HOLD.out _ HKW6.out)
              have HBV6 := Lib.hid (show Blk (((wr.alloc (.cells #[.int .u8 (K j : Int), .int .i64 (N' j), .string ⟨(S j).toArray⟩, .slice (AA j) (KS j).length (C j)] 24)).alloc (.cells #[.int .i64 (j : Int)] 3)).drew) vb tVw _ from HBV.out.alloc _)
              have HKB6 := Lib.hid (show Blk (((wr.alloc (.cells #[.int .u8 (K j : Int), .int .i64 (N' j), .string ⟨(S j).toArray⟩, .slice (AA j) (KS j).length (C j)] 24)).alloc (.cells #[.int .i64 (j : Int)] 3)).drew) wr.heap.size 24 _ from HKB.out.alloc _)
              have w6 := HBV6.out.cell 0
              obtain ⟨l0, l1, l2, l3⟩ := HKB6.out.four.1
              have w7 := (show Blk ((wr.alloc (.cells #[.int .u8 (K j : Int), .int .i64 (N' j), .string ⟨(S j).toArray⟩, .slice (AA j) (KS j).length (C j)] 24)).alloc (.cells #[.int .i64 (j : Int)] 3)) vb tVw _ from HBV.out.alloc _).cell 0
              obtain ⟨n0, n1, n2, n3⟩ := (show Blk ((wr.alloc (.cells #[.int .u8 (K j : Int), .int .i64 (N' j), .string ⟨(S j).toArray⟩, .slice (AA j) (KS j).length (C j)] 24)).alloc (.cells #[.int .i64 (j : Int)] 3)) wr.heap.size 24 _ from HKB.out.alloc _).four.1
              refine Code.wp_mono (Q := VCut2 B J Jx (kindsT (.node (K j) (N' j) (S j) (KS j))) (pre ++ xs) wr [.agg #[.int .u8 (k : Int), .int .i64 num, .string ⟨nm.toArray⟩, .slice (some ⟨g, o, none⟩) kids.length c], .slice (some ⟨b, 0, none⟩) n c', .pointer (some ⟨yb, 0, none⟩), .pointer (some ⟨vb, 0, none⟩), .pointer (some ⟨W.heap.size, 0, none⟩), undef, u6, .int .i64 (j : Int), .pointer (some ⟨wr.heap.size, 0, none⟩), v9, v10, v11, v12, v13, .bool true, .bool false, .pointer (some ⟨W.heap.size, 3, none⟩), .slice (some ⟨g, o, none⟩) kids.length c, .int .i64 (kids.length : Int), .int .i64 (j : Int), .bool true, .int .i64 (j : Int), .pointer (some ⟨g, o + j * 4, none⟩), .agg #[.int .u8 (K j : Int), .int .i64 (N' j), .string ⟨(S j).toArray⟩, .slice (AA j) (KS j).length (C j)]] u33) ?imp ?reg
              case reg =>
                go_region_held3 (fun V => V.cell? ⟨vb, 0, none⟩ = some (.func (.func 18) #[] #[.pointer (some ⟨yb, 0, none⟩), .pointer (some ⟨vb, 0, none⟩)]) ∧ V.cell? ⟨wr.heap.size, 0, none⟩ = some (.int .u8 (K j : Int)) ∧ V.cell? ⟨wr.heap.size, 1, none⟩ = some (.int .i64 (N' j)) ∧ V.cell? ⟨wr.heap.size, 2, none⟩ = some (.string ⟨(S j).toArray⟩) ∧ V.cell? ⟨wr.heap.size, 3, none⟩ = some (.slice (AA j) (KS j).length (C j)))
                  (first | exact ⟨v0, k0, k1, k2, k3⟩ | exact ⟨w7, n0, n1, n2, n3⟩ | exact ⟨v4, m0, m1, m2, m3⟩ | exact ⟨v5, o0, o1, o2, o3⟩ | fail)
                  (first
                  | (go_at_call 20; refine (clip_any _ _ _ _ hnc).mono ?_; rintro e w1 ⟨rfl, rfl⟩)
                  | (go_at_call 18; refine (HVIS.out _ (HKW6.out.trans (KpC.grown hgrow)) (abides_below hJ HJR.out (HB6.out.trans ((below_grown hgrow).mono HB6.out.size))) _ (path_of_own (zs := zs ++ [(j : Int)]) (by simpa using hown) (Nat.lt_of_lt_of_le hsB HB6.out.size) (by simpa using HZL.out))).mono ?_; rintro e w5 ⟨b5, rfl, hb1, hb2⟩; obtain rfl : b5 = true := (by cases b5 with | true => rfl | false => obtain ⟨q, hq⟩ := hb2 rfl; exact (hJx q _ hq).elim); obtain ⟨ys, hys, hjy, hky⟩ := hb1 rfl; have HK5 := Lib.hid (HKW6.out.trans (KpC.grown hgrow)); have v5 := (Blk.kpc (Blk.below HBV6.out (below_grown hgrow)) hky HVB.out).cell 0; obtain ⟨o0, o1, o2, o3⟩ := (Blk.kpc (Blk.below HKB6.out (below_grown hgrow)) hky (by omega)).four.1)
                  | (refine step_append_grows (by rfl) _ _ 33 (by rfl) 3 i1 (.int .i64 0) 1 8 Tryd.underlying33 HI.out HZ0.out HZ1.out HZ2.out (by rfl) (by decide) (some ⟨b, 0, none⟩) n n (zs.map (Value.int .i64)) (by rfl) (by intro h; cases h) HLO.out HOLD6.out ⟨wr.heap.size + 1, 0, none⟩ 1 1 [.int .i64 (j : Int)] (by rfl) (by rfl) HNEW.out (by intro u hu; simp at hu; subst hu; rfl) (by omega) (by have := HNS.out; unfold maxLen; omega) (by have := HNS.out; omega) ?_; intro v' w4 hown hgrow; have v4 := (Blk.below HBV6.out (below_grown hgrow)).cell 0; obtain ⟨m0, m1, m2, m3⟩ := (Blk.below HKB6.out (below_grown hgrow)).four.1)
                  | fail)
                all_goals exact ⟨_, _, _, _, _, _, _, true, rfl, fun _ => ⟨ys, hys, hjy, HK5.out.trans hky⟩, fun h => (by cases h)⟩
              case imp =>
                rintro e a w1 hcut
                cases e with
                | normal =>
                  obtain ⟨v24, v25, v26, v27, v28, v29, v30, b5, rfl, hb1, hb2⟩ := hcut
                  clear v0 k0 k1 k2 k3 w6 l0 l1 l2 l3 w7 n0 n1 n2 n3 HBV HKB HBV6 HKB6 HNEW HOLD6
                  cases b5 with
                  | false =>
                    obtain ⟨q, hq⟩ := hb2 rfl
                    go_wp2_with fail
                    go_ret
                    exact ⟨false, rfl, fun h => (by cases h), fun _ => ⟨q, hq⟩⟩
                  | true =>
                    obtain ⟨ys, hys, hjy, hky⟩ := hb1 rfl
                    clear hb1 hb2
                    have HYS := Lib.hid hys
                    have HJY := Lib.hid hjy
                    have HKY := Lib.hid hky
                    clear hys hjy hky
                    have hwr : wrap64 ((j : Int) + 1) = ((j + 1 : Nat) : Int) := by have h1 := HSZ.out; have h2 := PP.sizeL_take kids (j + 1); have h3 := HLEN.out; unfold wrap64; omega
                    have HWR := Lib.hid hwr
                    clear hwr
                    go_wp2_with fail
                    refine ⟨?_, ?_⟩
                    · repeat apply Exists.intro
                      refine ⟨⟨j + 1, xs ++ ys, by omega, ?_, ?_, ?_, HKR.out.trans HKY.out⟩, rfl⟩
                      · rw [HWR.out]
                      · rw [List.map_append, HMAP.out, HYS.out, take_at HKJ.out, kindsL_snoc]; rfl
                      · rw [← List.append_assoc]; exact HJY.out
                    · rw [HWR.out]
                      show kids.length - (intOf (.int .i64 ((j + 1 : Nat) : Int))).toNat < kids.length - (intOf (.int .i64 (j : Int))).toNat
                      simp only [intOf, Int.toNat_natCast]
                      omega
                | _ => exact hcut.elim
            · have hj' : j = kids.length := by omega
              subst hj'
              go_wp2_with fail
              go_ret
              refine ⟨true, rfl, fun _ => ⟨xs, ?_, HJR.out, (KpC.below HB0.out).trans HKR.out⟩, fun h => (by cases h)⟩
              rw [HMAP.out, List.take_length]; rfl
      | _ => exact hcut.elim
end
end Go.Proofs.YtkeehpgnljieeaaDoor
