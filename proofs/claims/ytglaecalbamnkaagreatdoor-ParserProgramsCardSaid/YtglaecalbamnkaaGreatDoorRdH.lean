/- The contracts of the reader's large and finish. -/
import Derived.Test.YtglaecalbamnkaaGreatDoorRdG
import Derived.BigRegion
namespace Go.Proofs.YtglaecalbamnkaaGreatDoor
open Go.RowKit Go.Maps
open PP (Tree)
theorem keep_of_below {Z : Nat → Prop} {w w' : World} (h : Below w.heap.size w w') : Keep Z w w' := ⟨h.size, fun g _ hg => h.block g hg⟩
section
set_option maxHeartbeats 2000000
set_option maxRecDepth 100000
variable {w0 : World} {Z : Nat → Prop} {b : Nat} {Y : RLoc} {E : PP.Env} {σ : PP.St} {bl : List OwnB} {ks : List (Option Addr × List Tree)} {W : World}
theorem rlarge_any {A : Option Addr} {kids : List Tree} (h : KidsC W Z A kids) (k : Nat) (num : Int) (nm : List UInt8) (c : Nat) (hs : PP.sizeL kids ≤ 1000000) :
    Calls Tryz.prog 53 #[.agg #[.int .u8 (k : Int), .int .i64 num, .string ⟨nm.toArray⟩, .slice A kids.length c]] W fun r w' => r = .returned (.bool (PP.large (.node k num nm kids))) ∧ Below W.heap.size W w' := by
  have hb1 : Below W.heap.size W (W.alloc (.cells #[.int .u8 (k : Int), .int .i64 num, .string ⟨nm.toArray⟩, .slice A kids.length c] 36)) := (Below.refl _ _).alloc (Nat.le_refl _) _
  have hB := Blk.new W 36 #[.int .u8 (k : Int), .int .i64 num, .string ⟨nm.toArray⟩, .slice A kids.length c]
  have hkp : ∀ w, Below W.heap.size W w → Keep Z W w := fun w hb => keep_of_below hb
  have HD := Lib.hid (fun w hb => rdepth_kids h w (hkp w hb) k num nm c hs)
  have HS := Lib.hid (fun w hb => rsize_kids h w (hkp w hb) k num nm c hs)
  have HN := Lib.hid (fun w hb => rnest_kids h w (hkp w hb) k num nm c hs)
  have hL : PP.large (.node k num nm kids) = (decide (16 < (Tree.node k num nm kids).depth) || decide (400 < (Tree.node k num nm kids).size) || decide (4 < (Tree.node k num nm kids).nest)) := rfl
  generalize PP.large (.node k num nm kids) = L at *
  generalize (Tree.node k num nm kids).depth = D at *
  generalize (Tree.node k num nm kids).size = S at *
  generalize (Tree.node k num nm kids).nest = N at *
  have HL := Lib.hid hL
  have HB1 := Lib.hid hb1
  have HB := Lib.hid hB
  clear hL hkp h
  obtain ⟨⟨n0, n1, n2, n3⟩, _, _, _, _⟩ := hB.four
  clear hb1 hB
  go_enter Tryz.func53, Tryz.ntmps53
  go_wp2_with fail
  refine (HD.out _ HB1.out).mono ?_
  rintro e w2 ⟨rfl, hb2⟩
  have hb2' : Below W.heap.size W w2 := HB1.out.trans (hb2.mono HB1.out.size)
  have hB2 := HB.out.belowD hb2
  obtain ⟨⟨m0, m1, m2, m3⟩, _, _, _, _⟩ := hB2.four
  have HB2 := Lib.hid hb2'
  have HBB := Lib.hid hB2
  clear hb2 hb2' hB2 n0 n1 n2 n3
  by_cases h1 : 16 < D
  · have p1 : (16 : Int) < (D : Int) := by omega
    have e1 : L = true := by rw [HL.out]; simp [h1]
    clear h1
    go_wp2_with fail
    go_ret
    exact ⟨by rw [e1]; rfl, HB2.out⟩
  · have p1 : ¬ (16 : Int) < (D : Int) := by omega
    go_wp2_with fail
    refine (HS.out _ HB2.out).mono ?_
    rintro e w3 ⟨rfl, hb3⟩
    have hb3' : Below W.heap.size W w3 := HB2.out.trans (hb3.mono HB2.out.size)
    have hB3 := HBB.out.belowD hb3
    obtain ⟨⟨o0, o1, o2, o3⟩, _, _, _, _⟩ := hB3.four
    have HB3 := Lib.hid hb3'
    clear hb3 hb3' hB3 m0 m1 m2 m3
    by_cases h2 : 400 < S
    · have p2 : (400 : Int) < (S : Int) := by omega
      have e1 : L = true := by rw [HL.out]; simp [h2]
      clear h1 h2
      go_wp2_with fail
      go_ret
      exact ⟨by rw [e1]; rfl, HB3.out⟩
    · have p2 : ¬ (400 : Int) < (S : Int) := by omega
      go_wp2_with fail
      refine (HN.out _ HB3.out).mono ?_
      rintro e w4 ⟨rfl, hb4⟩
      have HB4 := Lib.hid (HB3.out.trans (hb4.mono HB3.out.size))
      clear hb4 h1 h2 o0 o1 o2 o3
      go_wp2_with fail
      go_ret
      refine ⟨?_, HB4.out⟩
      rw [HL.out]
      have e7 : decide (16 < D) = decide ((16 : Int) < (D : Int)) := by rw [decide_eq_decide]; omega
      have e8 : decide (400 < S) = decide ((400 : Int) < (S : Int)) := by rw [decide_eq_decide]; omega
      have e9 : decide (4 < N) = decide ((4 : Int) < (N : Int)) := by rw [decide_eq_decide]; omega
      rw [e7, e8, e9]; rfl
end
end Go.Proofs.YtglaecalbamnkaaGreatDoor
