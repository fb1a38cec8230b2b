/- The contract of the reference's Equal, at two trees with the same contents. -/
import Derived.Test.YtglaecalbamnkaaGreatDoorRdM
import Derived.Test.YtglaecalbamnkaaGreatDoorRefQ
namespace Go.Proofs.YtglaecalbamnkaaGreatDoor
open Go.RowKit Go.Maps
open PP (Tree)
def REqRel (kids : List Tree) (w0 : World) (i : Value) (wr : World) : Prop := ∃ j : Nat, j ≤ kids.length ∧ i = .int .i64 (j : Int) ∧ Below w0.heap.size w0 wr
section
set_option maxHeartbeats 2000000
set_option maxRecDepth 100000
theorem requal_kids {w : World} {Z : Nat → Prop} {A : Option Addr} {kids : List Tree} (h : KidsC w Z A kids) : ∀ W, Keep Z w W → ∀ {Z' : Nat → Prop} {A' : Option Addr}, KidsC W Z' A' kids → ∀ (k : Nat) (num : Int) (nm : List UInt8) (c c' : Nat), PP.sizeL kids ≤ 1000000 →
    Calls Tryz.prog 25 #[.agg #[.int .u8 (k : Int), .int .i64 num, .string ⟨nm.toArray⟩, .slice A kids.length c], .agg #[.int .u8 (k : Int), .int .i64 num, .string ⟨nm.toArray⟩, .slice A' kids.length c']] W fun e w' => e = .returned (.bool true) ∧ Below W.heap.size W w' := by
  induction h with
  | mk A kids g o K N S AA C KS hA hk hc hh ih =>
    intro W hkeep Z' A' h' k num nm c c' hsz
    have hlen := PP.len_sizeL kids
    have HIH := Lib.hid ih
    have HKP := Lib.hid hkeep
    have HHK := Lib.hid hk
    have HHC := Lib.hid hc
    have HHA := Lib.hid hA
    have HH' := Lib.hid h'
    clear ih hkeep hk hc hh hA h'
    have hb0 : Below W.heap.size W ((W.alloc (.cells #[.int .u8 (k : Int), .int .i64 num, .string ⟨nm.toArray⟩, .slice A kids.length c] 36)).alloc (.cells #[.int .u8 (k : Int), .int .i64 num, .string ⟨nm.toArray⟩, .slice A' kids.length c'] 36)) := ((Below.refl _ _).alloc (Nat.le_refl _) _).alloc (by simp) _
    have hB := (Blk.new W 36 #[.int .u8 (k : Int), .int .i64 num, .string ⟨nm.toArray⟩, .slice A kids.length c]).alloc (.cells #[.int .u8 (k : Int), .int .i64 num, .string ⟨nm.toArray⟩, .slice A' kids.length c'] 36)
    have hB' : Blk ((W.alloc (.cells #[.int .u8 (k : Int), .int .i64 num, .string ⟨nm.toArray⟩, .slice A kids.length c] 36)).alloc (.cells #[.int .u8 (k : Int), .int .i64 num, .string ⟨nm.toArray⟩, .slice A' kids.length c'] 36)) (W.heap.size + 1) 36 #[.int .u8 (k : Int), .int .i64 num, .string ⟨nm.toArray⟩, .slice A' kids.length c'] := by
      have := Blk.new (W.alloc (.cells #[.int .u8 (k : Int), .int .i64 num, .string ⟨nm.toArray⟩, .slice A kids.length c] 36)) 36 #[.int .u8 (k : Int), .int .i64 num, .string ⟨nm.toArray⟩, .slice A' kids.length c']
      simpa [Blk] using this
    obtain ⟨⟨m0, m1, m2, m3⟩, _, _, _, _⟩ := hB.four
    obtain ⟨⟨n0, n1, n2, n3⟩, _, _, _, _⟩ := hB'.four
    have HB0 := Lib.hid hb0
    have HB := Lib.hid hB
    have HB' := Lib.hid hB'
    clear hb0 hB hB'
    have e0 : ((k : Int) != (k : Int)) = false := by simp
    have e1 : (num != num) = false := by simp
    have e2 : (nm.toArray != nm.toArray) = false := by simp
    have e3 : ((kids.length : Int) != (kids.length : Int)) = false := by simp
    go_enter Tryz.func25, Tryz.ntmps25
    go_wp2_with fail
    generalize hw0 : (W.alloc (.cells #[.int .u8 (k : Int), .int .i64 num, .string ⟨nm.toArray⟩, .slice A kids.length c] 36)).alloc (.cells #[.int .u8 (k : Int), .int .i64 num, .string ⟨nm.toArray⟩, .slice A' kids.length c'] 36) = w0 at *
    clear m0 m1 m2 m3 n0 n1 n2 n3 hw0
    go_loopw [5] (fun i wr => REqRel kids w0 i wr) (fun i _ => kids.length - (intOf i).toNat)
    case atStart => exact ⟨0, Nat.zero_le _, rfl, Below.refl _ _⟩
    case round =>
      obtain ⟨j, hj, rfl, hbr⟩ := hrel
      have hBr : Blk wr W.heap.size 36 #[.int .u8 (k : Int), .int .i64 num, .string ⟨nm.toArray⟩, .slice A kids.length c] := (hbr.block _ HB.out.lt).trans HB.out
      have hBr' : Blk wr (W.heap.size + 1) 36 #[.int .u8 (k : Int), .int .i64 num, .string ⟨nm.toArray⟩, .slice A' kids.length c'] := (hbr.block _ HB'.out.lt).trans HB'.out
      obtain ⟨⟨k0, k1, k2, k3⟩, _, _, _, _⟩ := hBr.four
      obtain ⟨⟨l0, l1, l2, l3⟩, _, _, _, _⟩ := hBr'.four
      have hbW := HB0.out.trans (hbr.mono HB0.out.size)
      by_cases hlt : j < kids.length
      · obtain ⟨hA1, hA2, hA3⟩ := HHA.out (by intro e; rw [e] at hlt; simp at hlt)
        obtain ⟨c0, c1, c2, c3⟩ := HHC.out j hlt
        have hkj := HHK.out j hlt
        have hkp : Keep Z w wr := HKP.out.trans ⟨hbW.size, fun g _ hg => hbW.block g hg⟩
        have hbg := hkp.2 g hA2 hA3
        have d0 := (World.cell?_of_block (a := ⟨g, o + j * 4, none⟩) hbg).trans c0
        have d1 := (World.cell?_of_block (a := ⟨g, o + j * 4 + 1, none⟩) hbg).trans c1
        have d2 := (World.cell?_of_block (a := ⟨g, o + j * 4 + 2, none⟩) hbg).trans c2
        have d3 := (World.cell?_of_block (a := ⟨g, o + j * 4 + 3, none⟩) hbg).trans c3
        obtain ⟨g', o', rfl, _, hg', hat'⟩ := HH'.out.at_ (by intro e; rw [e] at hlt; simp at hlt)
        obtain ⟨k', num', nm', A1', c1', ks', ht', ⟨y0, y1, y2, y3⟩, hk'⟩ := hat' j _ (List.getElem?_eq_getElem hlt)
        have hkj2 : kids[j]? = some (.node k' num' nm' ks') := by rw [List.getElem?_eq_getElem hlt, ht']
        rw [hkj2] at hkj
        injection hkj with hkj
        injection hkj with q1 q2 q3 q4
        subst q1 q2 q3 q4
        have f0 := (hbW.cell (p := ⟨g', o' + j * 4, none⟩) hg').trans y0
        have f1 := (hbW.cell (p := ⟨g', o' + j * 4 + 1, none⟩) hg').trans y1
        have f2 := (hbW.cell (p := ⟨g', o' + j * 4 + 2, none⟩) hg').trans y2
        have f3 := (hbW.cell (p := ⟨g', o' + j * 4 + 3, none⟩) hg').trans y3
        have hjs := PP.size_mem (List.mem_of_getElem? hkj2)
        have hks : PP.sizeL (KS j) ≤ 1000000 := by simp only [PP.Tree.size] at hjs; omega
        have hcall : ∀ W', Below wr.heap.size wr W' → Calls Tryz.prog 25 #[.agg #[.int .u8 (K j : Int), .int .i64 (N j), .string ⟨(S j).toArray⟩, .slice (AA j) (KS j).length (C j)], .agg #[.int .u8 (K j : Int), .int .i64 (N j), .string ⟨(S j).toArray⟩, .slice A1' (KS j).length c1']] W' fun e w' => e = .returned (.bool true) ∧ Below W'.heap.size W' w' := fun W' hb' =>
          HIH.out j hlt W' (hkp.trans ⟨hb'.size, fun g _ hg => hb'.block g hg⟩) (hk'.keep ⟨(hbW.trans (hb'.mono hbW.size)).size, fun g _ hg => (hbW.trans (hb'.mono hbW.size)).block g hg⟩) (K j) (N j) (S j) (C j) c1' hks
        subst hA1
        have p1 : (0 : Int) ≤ (j : Int) := by omega
        have p2 : (j : Int) < (kids.length : Int) := by omega
        have cE : ∀ d os, Calls Tryz.prog 25 #[.agg #[.int .u8 (K j : Int), .int .i64 (N j), .string ⟨(S j).toArray⟩, .slice (AA j) (KS j).length (C j)], .agg #[.int .u8 (K j : Int), .int .i64 (N j), .string ⟨(S j).toArray⟩, .slice A1' (KS j).length c1']] (Sort.grow (redrawn wr d) os) fun e w'' => e = .returned (.bool true) ∧ ∃ p : Regrown, w'' = Sort.grow (redrawn wr p.d) p.os :=
          fun d os => Calls.regrown_of (hcall _ (below_regrown wr d os))
        have HBR := Lib.hid hbr
        have HHJ := Lib.hid hlt
        clear hcall hkp hbg c0 c1 c2 c3 y0 y1 y2 y3 hkj2 hks hjs hA2 hA3 hat' hk' hbW hbr ht' k0 k1 k2 l0 l1 l2 hBr hBr'
        go_wp2_with fail
        have r3 := cell_regrown k3
        have s3 := cell_regrown l3
        have i0 := cell_regrown d0
        have i1 := cell_regrown d1
        have i2 := cell_regrown d2
        have i3 := cell_regrown d3
        have j0 := cell_regrown f0
        have j1 := cell_regrown f1
        have j2 := cell_regrown f2
        have j3 := cell_regrown f3
        clear k3 l3 d0 d1 d2 d3 f0 f1 f2 f3
        refine wp_region_quiet_below (by kernel_rfl) (by kernel_rfl) ?_
        repeat (quiet_step (first | exact cE _ _))
        refine wpQuiet_nil ?_
        intro _ hw'
        obtain ⟨⟨dq, osq⟩, hw''⟩ := hw'
        subst hw''
        have hb3 := HBR.out.trans ((below_regrown wr dq osq).mono HBR.out.size)
        clear cE r3 s3 i0 i1 i2 i3 j0 j1 j2 j3
        go_wp2_with fail
        go_roundw
        case rel => exact ⟨j + 1, by omega, by go_num, hb3⟩
        case measure => simp [intOf]; omega
      · have hj' : j = kids.length := by omega
        subst hj'
        go_wp2_with fail
        go_ret
        exact ⟨rfl, hbW⟩
theorem requal_any {W : World} {Z Z' : Nat → Prop} {v v' : Value} {t : Tree} (h : NodeV W Z v t) (h' : NodeV W Z' v' t) (hs : t.size ≤ 1000000) :
    Calls Tryz.prog 25 #[v, v'] W fun e w' => e = .returned (.bool true) ∧ Below W.heap.size W w' := by
  obtain ⟨k, num, nm, A, c, kids, rfl, rfl, hk⟩ := h
  obtain ⟨k', num', nm', A', c', kids', rfl, ht, hk'⟩ := h'
  injection ht with e1 e2 e3 e4
  subst e1 e2 e3 e4
  simp only [PP.Tree.size] at hs
  exact requal_kids hk W (Keep.refl Z W) hk' k num nm c c' (by omega)
end
end Go.Proofs.YtglaecalbamnkaaGreatDoor
