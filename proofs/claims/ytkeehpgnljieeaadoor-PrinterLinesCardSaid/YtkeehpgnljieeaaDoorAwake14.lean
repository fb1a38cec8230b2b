/- The law's examples: awake returns true. -/
import Derived.Test.YtkeehpgnljieeaaDoorPrI
import Derived.Test.YtkeehpgnljieeaaDoorSame0
import Derived.Deep.DeepCutAuto
import Derived.Deep.RegionHeld3
namespace Go.Proofs.YtkeehpgnljieeaaDoor
open Go.RowKit
open PP (Tree)
section
set_option maxHeartbeats 4000000
set_option maxRecDepth 100000
theorem name14 (s : ByteArray) (w : World) : Calls Tryd.prog 9 #[.string s] w fun e w' => e = .returned (.agg #[.int .u8 2, .int .i64 0, .string s, .slice none 0 0]) ∧ Below w.heap.size w w' := by
  go_enter Tryd.func9, Tryd.ntmps9
  go_wp2_with fail
  exact bodyPost_ret (node_result rfl rfl (Blk.new _ _ _)) rfl ⟨rfl, (Below.refl _ _).alloc (Nat.le_refl _) _⟩
theorem op14 (k : Int) (A : Option Addr) (n c : Nat) (w : World) : Calls Tryd.prog 11 #[.int .u8 k, .slice A n c] w fun e w' => e = .returned (.agg #[.int .u8 k, .int .i64 0, .string ⟨#[]⟩, .slice A n c]) ∧ Below w.heap.size w w' := by
  go_enter Tryd.func11, Tryd.ntmps11
  go_wp2_with fail
  exact bodyPost_ret (node_result rfl rfl (Blk.new _ _ _)) rfl ⟨rfl, (Below.refl _ _).alloc (Nat.le_refl _) _⟩
end
def cX : Array Value := #[.int .u8 2, .int .i64 0, .string ⟨#[120]⟩, .slice none 0 0]
def cY : Array Value := #[.int .u8 2, .int .i64 0, .string ⟨#[121]⟩, .slice none 0 0]
def cZ : Array Value := #[.int .u8 2, .int .i64 0, .string ⟨#[122]⟩, .slice none 0 0]
/-- What awake knows midway. -/
structure AW (w0 : World) (X Y Z : Nat) (W : World) : Prop where
  x : Blk W X 24 #[.int .u8 2, .int .i64 0, .string ⟨#[120]⟩, .slice none 0 0]
  y : Blk W Y 24 #[.int .u8 2, .int .i64 0, .string ⟨#[121]⟩, .slice none 0 0]
  z : Blk W Z 24 #[.int .u8 2, .int .i64 0, .string ⟨#[122]⟩, .slice none 0 0]
  be : Below w0.heap.size w0 W
  ops : OpsIs W
  pow : PowIs W
  sg : SignsIs W
theorem AW.below {w0 W W' : World} {X Y Z : Nat} (h : AW w0 X Y Z W) (hb : Below W.heap.size W W') : AW w0 X Y Z W' :=
  ⟨Blk.below h.x hb, Blk.below h.y hb, Blk.below h.z hb, h.be.trans (hb.mono h.be.size), h.ops.below hb, h.pow.below hb h.pow.lt, h.sg.belowS hb⟩
theorem AW.drew {w0 W : World} {X Y Z : Nat} (h : AW w0 X Y Z W) : AW w0 X Y Z W.drew := h.below (Below.refl _ _).drew
theorem AW.more {w0 W : World} {X Y Z : Nat} (h : AW w0 X Y Z W) (o : Obj) : AW w0 X Y Z (W.alloc o) := h.below ((Below.refl _ _).alloc (Nat.le_refl _) o)
theorem KidsC.anyZ {w : World} {Z : Nat → Prop} {A : Option Addr} {l : List Tree} (h : KidsC w Z A l) : KidsC w (· < w.heap.size) A l := h.weak (fun _ _ hg => hg)
theorem AW.arg {w0 W : World} {X Y Z : Nat} (h : AW w0 X Y Z W) {A : Option Addr} {l : List Tree} {Q : Nat → Prop} (hk : KidsC W Q A l) (hs : PP.sizeL l ≤ 999999) (hn : PP.nmL l = true) : PArg W W.heap.size A l := ⟨hk.anyZ, Nat.le_refl _, h.ops, h.pow, h.sg, hs, hn⟩
section
set_option maxHeartbeats 8000000
set_option maxRecDepth 100000
abbrev tX : Tree := .node 2 0 [120] []
abbrev tY : Tree := .node 2 0 [121] []
abbrev tZ : Tree := .node 2 0 [122] []
abbrev tN : Tree := .node 1 1 [] []
theorem ex1 : exprOut (.node 8 0 [] [.node 2 0 [120] [], .node 6 0 [] [.node 2 0 [121] [], .node 1 1 [] []]]) = ([120, 32, 42, 32, 40, 121, 32, 43, 32, 49, 41], 0) := by decide +kernel
theorem ex2 : exprOut (.node 7 0 [] [.node 7 0 [] [.node 2 0 [120] [], .node 2 0 [121] []], .node 2 0 [122] []]) = ([120, 32, 45, 32, 121, 32, 45, 32, 122], 0) := by decide +kernel
theorem ex3 : exprOut (.node 4 0 [] [.node 4 0 [] [.node 2 0 [120] []]]) = ([45, 45, 120], 0) := by decide +kernel
theorem ex4 : blockOut (.node 47 0 [] [.node 40 0 [] [.node 2 0 [120] [], .node 2 0 [121] []]]) = ([120, 32, 61, 32, 121, 59, 10], 0) := by decide +kernel
theorem awake14_any (w : World) (ho : OpsIs w) (hp : PowIs w) (hg : SignsIs w) : Calls Tryd.prog 4 #[] w fun e w' => e = .returned (.bool true) ∧ Below w.heap.size w w' := by
  go_enter Tryd.func4, Tryd.ntmps4
  go_wp2_with fail
  refine (name14 _ _).mono ?_
  rintro e w1 ⟨rfl, hb1⟩
  go_wp2_with fail
  refine (name14 _ _).mono ?_
  rintro e w2 ⟨rfl, hb2⟩
  go_wp2_with fail
  refine (name14 _ _).mono ?_
  rintro e w3 ⟨rfl, hb3⟩
  have HB := Lib.hid ((hb1.trans (hb2.mono hb1.size)).trans (hb3.mono (hb1.trans (hb2.mono hb1.size)).size))
  clear hb1 hb2 hb3
  go_wp2_with fail
  have hA : AW w w3.heap.size (w3.heap.size + 1) (w3.heap.size + 1 + 1) (((w3.alloc (.cells #[.int .u8 2, .int .i64 0, .string ⟨#[120]⟩, .slice none 0 0] 24)).alloc (.cells #[.int .u8 2, .int .i64 0, .string ⟨#[121]⟩, .slice none 0 0] 24)).alloc (.cells #[.int .u8 2, .int .i64 0, .string ⟨#[122]⟩, .slice none 0 0] 24)) := by
    have q1 : Below w3.heap.size w3 (w3.alloc (.cells #[.int .u8 2, .int .i64 0, .string ⟨#[120]⟩, .slice none 0 0] 24)) := (Below.refl _ _).alloc (Nat.le_refl _) _
    have q2 : Below w3.heap.size w3 ((w3.alloc (.cells #[.int .u8 2, .int .i64 0, .string ⟨#[120]⟩, .slice none 0 0] 24)).alloc (.cells #[.int .u8 2, .int .i64 0, .string ⟨#[121]⟩, .slice none 0 0] 24)) := q1.alloc q1.size _
    have q3 : Below w3.heap.size w3 (((w3.alloc (.cells #[.int .u8 2, .int .i64 0, .string ⟨#[120]⟩, .slice none 0 0] 24)).alloc (.cells #[.int .u8 2, .int .i64 0, .string ⟨#[121]⟩, .slice none 0 0] 24)).alloc (.cells #[.int .u8 2, .int .i64 0, .string ⟨#[122]⟩, .slice none 0 0] 24)) := q2.alloc q2.size _
    have hq := HB.out.trans (q3.mono HB.out.size)
    refine ⟨((Blk.new w3 24 #[.int .u8 2, .int .i64 0, .string ⟨#[120]⟩, .slice none 0 0]).alloc _).alloc _, (blk_second w3 24 24 #[.int .u8 2, .int .i64 0, .string ⟨#[120]⟩, .slice none 0 0] #[.int .u8 2, .int .i64 0, .string ⟨#[121]⟩, .slice none 0 0]).alloc _, ?_, hq, ho.below hq, hp.below hq hp.lt, hg.belowS hq⟩
    have := Blk.new ((w3.alloc (.cells #[.int .u8 2, .int .i64 0, .string ⟨#[120]⟩, .slice none 0 0] 24)).alloc (.cells #[.int .u8 2, .int .i64 0, .string ⟨#[121]⟩, .slice none 0 0] 24)) 24 #[.int .u8 2, .int .i64 0, .string ⟨#[122]⟩, .slice none 0 0]
    simpa using this
  generalize ((w3.alloc (.cells #[.int .u8 2, .int .i64 0, .string ⟨#[120]⟩, .slice none 0 0] 24)).alloc (.cells #[.int .u8 2, .int .i64 0, .string ⟨#[121]⟩, .slice none 0 0] 24)).alloc (.cells #[.int .u8 2, .int .i64 0, .string ⟨#[122]⟩, .slice none 0 0] 24) = wa at *
  generalize w3.heap.size + 1 + 1 = Z at *
  generalize w3.heap.size + 1 = Y at *
  generalize w3.heap.size = X at *
  have HA := Lib.hid hA
  clear hA HB
  go_cut [4, 5] (fun s4 s5 wx => s4 = .string ⟨#[120, 32, 42, 32, 40, 121, 32, 43, 32, 49, 41]⟩ ∧ s5 = .int .i64 0 ∧ AW w X Y Z wx)
  case first =>
    have hP := HA.out.drew
    have hI := HA.out
    have hK := KidsC.nil wa.drew (fun _ => True) none
    go_region_held3 (fun V => (V.cell? ⟨X, 0, none⟩ = some (.int .u8 2) ∧ V.cell? ⟨X, 1, none⟩ = some (.int .i64 0) ∧ V.cell? ⟨X, 2, none⟩ = some (.string ⟨#[120]⟩) ∧ V.cell? ⟨X, 3, none⟩ = some (.slice none 0 0)) ∧ (V.cell? ⟨Y, 0, none⟩ = some (.int .u8 2) ∧ V.cell? ⟨Y, 1, none⟩ = some (.int .i64 0) ∧ V.cell? ⟨Y, 2, none⟩ = some (.string ⟨#[121]⟩) ∧ V.cell? ⟨Y, 3, none⟩ = some (.slice none 0 0)))
      (with_reducible first | exact ⟨hI.x.four.1, hI.y.four.1⟩ | exact ⟨hP.x.four.1, hP.y.four.1⟩ | exact ⟨((hI.more _).drew).x.four.1, ((hI.more _).drew).y.four.1⟩ | exact ⟨(hP.more _).x.four.1, (hP.more _).y.four.1⟩)
      (first
        | (go_at_call_of 11 (Value.int .u8 6); refine (op14 6 _ _ _ _).mono ?_; rintro e w7 ⟨rfl, hb7⟩; have hK1 := (kids_two (Z := fun _ => True) trivial (k := 2) (num := 0) (nm := [121]) (c := 0) (KidsC.nil _ _ none) (k' := 1) (num' := 1) (nm' := []) (c' := 0) (KidsC.nil _ _ none) 24).keep ⟨hb7.size, fun g _ hg => hb7.block g hg⟩; replace hP := ((hI.more _).drew).below hb7; clear hb7)
        | (go_at_call_of 11 (Value.int .u8 8); refine (op14 8 _ _ _ _).mono ?_; rintro e w7 ⟨rfl, hb7⟩; have hK2 := (kids_two (Z := fun _ => True) trivial (k := 2) (num := 0) (nm := [120]) (c := 0) (KidsC.nil _ _ none) (k' := 6) (num' := 0) (nm' := []) (c' := 2) hK1 24).keep ⟨hb7.size, fun g _ hg => hb7.block g hg⟩; replace hP := (hP.more _).below hb7; clear hb7)
        | (go_at_call 10; have hx := printExpr_any (k := 8) (num := 0) (nm := []) (c := 2) (hP.arg hK2 (by decide) (by decide)) (by decide); rw [ex1] at hx; refine hx.mono ?_; clear hx; rintro e w9 ⟨rfl, hb9⟩; replace hP := hP.below hb9; clear hb9))
    all_goals (go_wp2_with fail; go_meet; exact ⟨rfl, rfl, hP⟩)
  case rest =>
    obtain ⟨rfl, rfl, hA⟩ := hcut
    have HA2 := Lib.hid hA
    clear hA HA
    go_upto_region 3 with fail
    generalize wc = wb at *
    go_cut [6, 7] (fun s6 s7 wx => s6 = .string ⟨#[120, 32, 45, 32, 121, 32, 45, 32, 122]⟩ ∧ s7 = .int .i64 0 ∧ AW w X Y Z wx)
    case first =>
      have hP := HA2.out.drew
      have hI := HA2.out
      have tok1 : True := trivial
      have hK1 := KidsC.nil wb.drew (fun _ => True) none
      go_region_held3 (fun V => (V.cell? ⟨X, 0, none⟩ = some (.int .u8 2) ∧ V.cell? ⟨X, 1, none⟩ = some (.int .i64 0) ∧ V.cell? ⟨X, 2, none⟩ = some (.string ⟨#[120]⟩) ∧ V.cell? ⟨X, 3, none⟩ = some (.slice none 0 0)) ∧ (V.cell? ⟨Y, 0, none⟩ = some (.int .u8 2) ∧ V.cell? ⟨Y, 1, none⟩ = some (.int .i64 0) ∧ V.cell? ⟨Y, 2, none⟩ = some (.string ⟨#[121]⟩) ∧ V.cell? ⟨Y, 3, none⟩ = some (.slice none 0 0)) ∧ (V.cell? ⟨Z, 0, none⟩ = some (.int .u8 2) ∧ V.cell? ⟨Z, 1, none⟩ = some (.int .i64 0) ∧ V.cell? ⟨Z, 2, none⟩ = some (.string ⟨#[122]⟩) ∧ V.cell? ⟨Z, 3, none⟩ = some (.slice none 0 0)))
        (with_reducible first | exact ⟨hI.x.four.1, hI.y.four.1, hI.z.four.1⟩ | exact ⟨hP.x.four.1, hP.y.four.1, hP.z.four.1⟩ | exact ⟨((hI.more _).drew).x.four.1, ((hI.more _).drew).y.four.1, ((hI.more _).drew).z.four.1⟩ | exact ⟨(hP.more _).x.four.1, (hP.more _).y.four.1, (hP.more _).z.four.1⟩)
        (first
          | (go_at_call 11; have _t := tok1; refine (op14 7 _ _ _ _).mono ?_; rintro e w7 ⟨rfl, hb7⟩; replace hK1 := (kids_two (Z := fun _ => True) trivial (k := 2) (num := 0) (nm := [120]) (c := 0) (KidsC.nil _ _ none) (k' := 2) (num' := 0) (nm' := [121]) (c' := 0) (KidsC.nil _ _ none) 24).keep ⟨hb7.size, fun g _ hg => hb7.block g hg⟩; replace hP := ((hI.more _).drew).below hb7; clear hb7 tok1 _t)
          | (go_at_call 11; refine (op14 7 _ _ _ _).mono ?_; rintro e w7 ⟨rfl, hb7⟩; have hK2 := (kids_two (Z := fun _ => True) trivial (k := 7) (num := 0) (nm := []) (c := 2) hK1 (k' := 2) (num' := 0) (nm' := [122]) (c' := 0) (KidsC.nil _ _ none) 24).keep ⟨hb7.size, fun g _ hg => hb7.block g hg⟩; replace hP := (hP.more _).below hb7; clear hb7)
          | (go_at_call 10; have hx := printExpr_any (k := 7) (num := 0) (nm := []) (c := 2) (hP.arg hK2 (by decide) (by decide)) (by decide); rw [ex2] at hx; refine hx.mono ?_; clear hx; rintro e w9 ⟨rfl, hb9⟩; replace hP := hP.below hb9; clear hb9))
      all_goals (go_wp2_with fail; go_meet; exact ⟨rfl, rfl, hP⟩)
    case rest =>
      obtain ⟨rfl, rfl, hA⟩ := hcut
      obtain ⟨x0, x1, x2, x3⟩ := hA.x.four.1
      have hlx := hA.x.lt
      have HA3 := Lib.hid hA
      clear hA HA2
      generalize wc = wd at *
      go_wp2_with fail
      refine (op14 4 _ _ _ _).mono ?_
      rintro e w4 ⟨rfl, hb4⟩
      have hK1 := (kids_one (Z := fun _ => True) trivial (k := 2) (num := 0) (nm := [120]) (c := 0) (KidsC.nil wd _ none) 24).keep ⟨hb4.size, fun g _ hg => hb4.block g hg⟩
      have hP := (HA3.out.more _).below hb4
      clear hb4 x0 x1 x2 x3 hlx
      go_wp2_with fail
      refine (op14 4 _ _ _ _).mono ?_
      rintro e w5 ⟨rfl, hb5⟩
      have hK2 := (kids_one (Z := fun _ => True) trivial (k := 4) (num := 0) (nm := []) (c := 1) hK1 24).keep ⟨hb5.size, fun g _ hg => hb5.block g hg⟩
      replace hP := (hP.more _).below hb5
      clear hb5
      go_wp2_with fail
      have hx := printExpr_any (k := 4) (num := 0) (nm := []) (c := 1) (hP.arg hK2 (by decide) (by decide)) (by decide)
      rw [ex3] at hx
      refine hx.mono ?_
      clear hx
      rintro e w6 ⟨rfl, hb6⟩
      replace hP := hP.below hb6
      clear hb6 hK1 hK2
      obtain ⟨x0, x1, x2, x3⟩ := hP.x.four.1
      obtain ⟨y0, y1, y2, y3⟩ := hP.y.four.1
      have hlx := hP.x.lt
      have hly := hP.y.lt
      have HA4 := Lib.hid hP
      clear hP HA3
      go_wp2_with fail
      refine (op14 40 _ _ _ _).mono ?_
      rintro e w7 ⟨rfl, hb7⟩
      have hK1 := (kids_two (Z := fun _ => True) trivial (k := 2) (num := 0) (nm := [120]) (c := 0) (KidsC.nil _ _ none) (k' := 2) (num' := 0) (nm' := [121]) (c' := 0) (KidsC.nil _ _ none) 24).keep ⟨hb7.size, fun g _ hg => hb7.block g hg⟩
      have hP := (HA4.out.more _).below hb7
      clear hb7 x0 x1 x2 x3 y0 y1 y2 y3 hlx hly
      go_wp2_with fail
      refine (op14 47 _ _ _ _).mono ?_
      rintro e w8 ⟨rfl, hb8⟩
      have hK2 := (kids_one (Z := fun _ => True) trivial (k := 40) (num := 0) (nm := []) (c := 2) hK1 24).keep ⟨hb8.size, fun g _ hg => hb8.block g hg⟩
      replace hP := (hP.more _).below hb8
      clear hb8
      go_wp2_with fail
      have hx := printBlock_any (k := 47) (num := 0) (nm := []) (c := 1) (hP.arg hK2 (by decide) (by decide)) (by decide) (by decide)
      rw [ex4] at hx
      refine hx.mono ?_
      clear hx
      rintro e w9 ⟨rfl, hb9⟩
      replace hP := hP.below hb9
      clear hb9 hK1 hK2
      have HA5 := Lib.hid hP
      clear hP HA4
      go_wp2_with fail
      go_ret
      exact ⟨rfl, HA5.out.be⟩
end
end Go.Proofs.YtkeehpgnljieeaaDoor
