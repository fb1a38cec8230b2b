/- The contract of the reader's finish. -/
import Derived.Test.YtfakdbnfpdalhaaGreatDoorRdH
namespace Go.Proofs.YtfakdbnfpdalhaaGreatDoor
open Go.RowKit Go.Maps
open PP (Tree)
section
set_option maxHeartbeats 2000000
set_option maxRecDepth 100000
variable {w0 : World} {Z : Nat → Prop} {b : Nat} {Y : RLoc} {E : PP.Env} {σ : PP.St} {bl : List OwnB} {ks : List (Option Addr × List Tree)} {W : World}
/-- The end of a call of the reference that hands back a tree, or an offset and an error. -/
def RFinEnd (w0 : World) (Z : Nat → Prop) (b : Nat) (Y : RLoc) (E : PP.Env) (σ : PP.St) (t : Tree) (bl : List OwnB) (ks : List (Option Addr × List Tree)) (r : Ending) (w' : World) : Prop :=
  ∃ k num nm A c kids, r = .returned (.tuple #[.agg #[.int .u8 ((k : Nat) : Int), .int .i64 num, .string ⟨(nm : List UInt8).toArray⟩, .slice A (kids : List Tree).length c], .int .i64 ((PP.out PP.zeroT (σ, t)).2.1 : Int), .int .i64 ((PP.out PP.zeroT (σ, t)).2.2 : Int)]) ∧
    (PP.out PP.zeroT (σ, t)).1 = .node k num nm kids ∧ RInv w0 Z b Y E σ bl ((A, kids) :: ks) w'
/-- What finish leaves of a state. -/
def endSt (E : PP.Env) (t : Tree) (σ : PP.St) : PP.St := PP.limitP t 0 (if PP.more E σ then PP.reject E σ else σ)
theorem rfinish_inv (h : RInv w0 Z b Y E σ bl ks W) (k : Nat) (num : Int) (nm : List UInt8) (A : Option Addr) (c : Nat) (kids : List Tree) (hm : (A, kids) ∈ ks) (hs : σ.err = 0 → PP.sizeL kids ≤ 1000000) :
    Calls Tryz.prog 48 #[.pointer (some ⟨b, 0, none⟩), .agg #[.int .u8 (k : Int), .int .i64 num, .string ⟨nm.toArray⟩, .slice A kids.length c]] W (RFinEnd w0 Z b Y E (endSt E (.node k num nm kids) σ) (.node k num nm kids) bl ks) := by
  have I1 := (h.alloc #[.int .u8 (k : Int), .int .i64 num, .string ⟨nm.toArray⟩, .slice A kids.length c] 36 rfl).alloc #[.int .u8 0, .int .i64 0, .string ⟨#[]⟩, .slice none 0 0] 36 (n := W.heap.size + 1) (by simp)
  have HM := Lib.hid hm
  have bad : ∀ w2 σ', RInv w0 Z b Y E σ' ((W.heap.size + 1, 36, #[.int .u8 0, .int .i64 0, .string ⟨#[]⟩, .slice none 0 0]) :: (W.heap.size, 36, #[.int .u8 (k : Int), .int .i64 num, .string ⟨nm.toArray⟩, .slice A kids.length c]) :: bl) ks w2 → σ'.err ≠ 0 → endSt E (.node k num nm kids) σ = σ' →
      ∀ wx, RInv w0 Z b Y E σ' ((W.heap.size + 1, 36, #[.int .u8 0, .int .i64 0, .string ⟨#[]⟩, .slice none 0 0]) :: (W.heap.size, 36, #[.int .u8 (k : Int), .int .i64 num, .string ⟨nm.toArray⟩, .slice A kids.length c]) :: bl) ks wx → RFinEnd w0 Z b Y E (endSt E (.node k num nm kids) σ) (.node k num nm kids) bl ks (.returned (.tuple #[.agg #[.int .u8 0, .int .i64 0, .string ⟨#[]⟩, .slice none 0 0], .int .i64 (σ'.off : Int), .int .i64 (σ'.err : Int)])) wx := by
    rintro w2 σ' _ he hσ wx Ix
    rw [hσ]
    refine ⟨0, 0, [], none, 0, [], ?_, ?_, Ix.drop.drop.addKs (KidsC.nil _ _ _)⟩
    · unfold PP.out; rw [if_neg he]; rfl
    · unfold PP.out; rw [if_neg he]; rfl
  have BAD := Lib.hid bad
  clear bad hm
  have HS := Lib.hid hs
  obtain ⟨kk, cc, pe, AA, hst⟩ := I1.ps.st
  obtain ⟨x0, _, x2, x3⟩ := hst.cells
  have hhere := hst.here
  have hpos := hst.pos
  obtain ⟨⟨n0, n1, n2, n3⟩, _, _, _, _⟩ := I1.b1.four
  have HI := Lib.hid I1
  have HST := Lib.hid hst
  by_cases he : σ.err = 0
  · have e1 : ((σ.err : Int) == 0) = true := by simp [he]
    have hkk := hhere he
    subst hkk
    by_cases hlt : σ.next < E.ts.length
    · have e2 : decide ((0 : Int) < ((E.ts.length - σ.next : Nat) : Int)) = true := by simp; omega
      have p2 : (0 : Int) < ((E.ts.length - σ.next : Nat) : Int) := by omega
      have hmo : PP.more E σ = true := by simp [PP.more, he, hlt]
      have hre := PP.reject_err E σ
      have heq : endSt E (.node k num nm kids) σ = PP.reject E σ := by unfold endSt; rw [if_pos hmo]; unfold PP.limitP; rw [if_neg hre]
      have HEQ := Lib.hid heq
      have HE := Lib.hid hre
      have HW := Lib.hid (rwrong_inv I1)
      clear I1 hmo hre heq hhere hpos hst hs h
      go_enter Tryz.func48, Tryz.ntmps48
      go_wp2_with fail
      refine HW.out.mono ?_
      rintro e w2 ⟨rfl, I2⟩
      have e3 : (((PP.reject E σ).err : Int) == 0) = false := beq_eq_false_iff_ne.2 (by have := HE.out; omega)
      have e4 : (((PP.reject E σ).err : Int) != 0) = true := by simpa using HE.out
      obtain ⟨k2, c2, pe2, A2, hst2⟩ := I2.ps.st
      obtain ⟨y0, _, y2, y3⟩ := hst2.cells
      have hp2 := hst2.pos HE.out
      subst hp2
      obtain ⟨⟨r0, r1, r2, r3⟩, q0, q1, q2, q3⟩ := I2.b0.four
      have HQ := Lib.hid (fun v0 v1 v2 v3 => I2.drew.st0 v0 v1 v2 v3)
      have IX := Lib.hid I2
      have hb := I2.ne (x := (W.heap.size + 1, 36, #[.int .u8 0, .int .i64 0, .string ⟨#[]⟩, .slice none 0 0])) (by simp)
      obtain ⟨hb1, hb2⟩ := hb
      clear I2 hst2 x0 x2 x3 n0 n1 n2 n3 HW
      go_wp2_with fail
      go_region
      all_goals
        go_wp2_with fail
        refine bodyPost_ret (node3_result rfl rfl (HQ.out _ _ _ _).b0) rfl ?_
        exact BAD.out _ _ IX.out HE.out HEQ.out _ (HQ.out (.int .u8 0) (.int .i64 0) (.string ⟨#[]⟩) (.slice none 0 0))
    · have e2 : decide ((0 : Int) < ((E.ts.length - σ.next : Nat) : Int)) = false := by simp; omega
      have p2 : ¬ (0 : Int) < ((E.ts.length - σ.next : Nat) : Int) := by omega
      have hmo : PP.more E σ = false := by simp [PP.more, hlt]
      have heq : endSt E (.node k num nm kids) σ = PP.limitP (.node k num nm kids) 0 σ := by unfold endSt; rw [hmo]; rfl
      have hlg := rlarge_any (I1.ks _ HM.out) k num nm c (hs he)
      have HLG := Lib.hid hlg
      have e4 : ((σ.err : Int) != 0) = false := by simp [he]
      cases hL : PP.large (.node k num nm kids) with
      | false =>
        rw [hL] at HLG
        have HEQ := Lib.hid (heq.trans (show PP.limitP (.node k num nm kids) 0 σ = σ by unfold PP.limitP; rw [if_pos he, hL]; rfl))
        clear hlg hmo heq hhere hpos hst hs h hL I1
        go_enter Tryz.func48, Tryz.ntmps48
        go_wp2_with fail
        refine HLG.out.mono ?_
        rintro e w2 ⟨rfl, hb2⟩
        have I2 := HI.out.call (HI.out.ps.below hb2) (Fr.of_below hb2)
        obtain ⟨k2, c2, pe2, A2, hst2⟩ := I2.ps.st
        obtain ⟨y0, _, y2, y3⟩ := hst2.cells
        obtain ⟨⟨m0, m1, m2, m3⟩, _, _, _, _⟩ := I2.b1.four
        obtain ⟨⟨r0, r1, r2, r3⟩, q0, q1, q2, q3⟩ := I2.b0.four
        have HQ := Lib.hid (fun v0 v1 v2 v3 => I2.st0 v0 v1 v2 v3)
        clear I2 hst2 hb2 HLG x0 x2 x3 n0 n1 n2 n3
        go_wp2_with fail
        refine bodyPost_ret (node3_result rfl rfl (HQ.out _ _ _ _).b0) rfl ?_
        rw [HEQ.out]
        refine ⟨k, num, nm, A, c, kids, ?_, ?_, ((HQ.out _ _ _ _).drop.drop).addKs (((HQ.out _ _ _ _).drop.drop).ks _ HM.out)⟩
        · unfold PP.out; rw [if_pos he]; rfl
        · unfold PP.out; rw [if_pos he]
      | true =>
        rw [hL] at HLG
        have HEQ := Lib.hid (heq.trans (show PP.limitP (.node k num nm kids) 0 σ = PP.fail σ 0 5 by unfold PP.limitP; rw [if_pos he, hL]; rfl))
        have HE := Lib.hid (show (PP.fail σ 0 5).err ≠ 0 by unfold PP.fail; rw [if_pos he]; simp)
        clear hlg hmo heq hhere hpos hst hs h hL I1
        go_enter Tryz.func48, Tryz.ntmps48
        go_wp2_with fail
        refine HLG.out.mono ?_
        rintro e w2 ⟨rfl, hb2⟩
        have I2 := HI.out.call (HI.out.ps.below hb2) (Fr.of_below hb2)
        have HFA := Lib.hid (rfail_any 0 5 (by decide) w2 I2.ps)
        have HI2 := Lib.hid I2
        clear I2 hb2 HLG x0 x2 x3 n0 n1 n2 n3
        go_wp2_with fail
        refine HFA.out.mono ?_
        rintro e w3 ⟨rfl, hp3, hf3⟩
        have I3 := HI2.out.call hp3 hf3
        have e5 : (((PP.fail σ 0 5).err : Int) != 0) = true := by simpa using HE.out
        obtain ⟨k2, c2, pe2, A2, hst2⟩ := I3.ps.st
        obtain ⟨y0, _, y2, y3⟩ := hst2.cells
        have hp2 := hst2.pos HE.out
        subst hp2
        obtain ⟨⟨r0, r1, r2, r3⟩, q0, q1, q2, q3⟩ := I3.b0.four
        have HQ := Lib.hid (fun v0 v1 v2 v3 => I3.drew.st0 v0 v1 v2 v3)
        have IX := Lib.hid I3
        have hb := I3.ne (x := (W.heap.size + 1, 36, #[.int .u8 0, .int .i64 0, .string ⟨#[]⟩, .slice none 0 0])) (by simp)
        obtain ⟨hb1, hb2⟩ := hb
        clear I3 hst2 hp3 hf3 HFA HI2
        go_wp2_with fail
        go_region
        all_goals
          go_wp2_with fail
          refine bodyPost_ret (node3_result rfl rfl (HQ.out _ _ _ _).b0) rfl ?_
          exact BAD.out _ _ IX.out HE.out HEQ.out _ (HQ.out (.int .u8 0) (.int .i64 0) (.string ⟨#[]⟩) (.slice none 0 0))
  · have e1 : ((σ.err : Int) == 0) = false := beq_eq_false_iff_ne.2 (by omega)
    have e4 : ((σ.err : Int) != 0) = true := by simpa using he
    have hp2 := hpos he
    subst hp2
    have heq : endSt E (.node k num nm kids) σ = σ := by
      have hmo : PP.more E σ = false := by simp [PP.more, he]
      unfold endSt; rw [hmo]; unfold PP.limitP; simp [he]
    obtain ⟨⟨r0, r1, r2, r3⟩, q0, q1, q2, q3⟩ := I1.b0.four
    have HQ := Lib.hid (fun v0 v1 v2 v3 => I1.drew.st0 v0 v1 v2 v3)
    have IX := Lib.hid I1
    have HE := Lib.hid he
    have HEQ := Lib.hid heq
    have hb := I1.ne (x := (W.heap.size + 1, 36, #[.int .u8 0, .int .i64 0, .string ⟨#[]⟩, .slice none 0 0])) (by simp)
    obtain ⟨hb1, hb2⟩ := hb
    clear I1 hst hhere hpos hs h heq he
    go_enter Tryz.func48, Tryz.ntmps48
    go_wp2_with fail
    generalize (W.alloc (.cells #[.int .u8 (k : Int), .int .i64 num, .string ⟨nm.toArray⟩, .slice A kids.length c] 36)).alloc (.cells #[.int .u8 0, .int .i64 0, .string ⟨#[]⟩, .slice none 0 0] 36) = w2 at *
    go_region
    all_goals
      go_wp2_with fail
      refine bodyPost_ret (node3_result rfl rfl (HQ.out _ _ _ _).b0) rfl ?_
      exact BAD.out _ _ IX.out HE.out HEQ.out _ (HQ.out (.int .u8 0) (.int .i64 0) (.string ⟨#[]⟩) (.slice none 0 0))
end
end Go.Proofs.YtfakdbnfpdalhaaGreatDoor
