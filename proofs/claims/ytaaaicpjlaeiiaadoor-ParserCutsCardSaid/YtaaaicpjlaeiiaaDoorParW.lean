/- The contracts of the parser's finish and Expr. -/
import Derived.Test.YtaaaicpjlaeiiaaDoorParV
import Derived.BigRegion
namespace Go.Proofs.YtaaaicpjlaeiiaaDoor
open Go.RowKit Go.Maps
open PP (Tree ArrD TaskD)

theorem node3_result {fn : Func} {p q r : Tmp} (h : fn.results = #[.cell p 24, .tmp q, .tmp r]) {tmps : Array Value} {w : World} {g : Nat} {a0 a1 a2 a3 : Value} (hp : tmps.getD p undef = .pointer (some ⟨g, 0, none⟩)) (hb : Blk w g 24 #[a0, a1, a2, a3]) :
    (results fn tmps).run Tryd.prog w = .ok (.tuple #[.agg #[a0, a1, a2, a3], tmps.getD q undef, tmps.getD r undef]) w := by
  have hp' : tmps[p]?.getD undef = .pointer (some ⟨g, 0, none⟩) := by simpa using hp
  simp [results, h, hp', asAddr, run_loadVar_row w g 24 24 #[a0, a1, a2, a3] (0, 0) _ hb Tryd.underlying24 rfl (by kernel_rfl)]
namespace PP
def out {α : Type} (z : α) (r : St × α) : α × Nat × Nat := if r.1.err = 0 then (r.2, 0, 0) else (z, r.1.off, r.1.err)
def zeroT : Tree := .node 0 0 [] []
end PP
/-- The end of a call that hands back a tree, or an offset and an error. -/
def FinEnd (w0 : World) (Z : Nat → Prop) (b : Nat) (X : Loc) (E : PP.Env) (σ : PP.St) (t : Tree) (bl : List OwnB) (ks : List (Option Addr × List Tree)) (r : Ending) (w' : World) : Prop :=
  ∃ k num nm A c kids, r = .returned (.tuple #[.agg #[.int .u8 ((k : Nat) : Int), .int .i64 num, .string ⟨(nm : List UInt8).toArray⟩, .slice A (kids : List Tree).length c], .int .i64 ((PP.out PP.zeroT (σ, t)).2.1 : Int), .int .i64 ((PP.out PP.zeroT (σ, t)).2.2 : Int)]) ∧
    (PP.out PP.zeroT (σ, t)).1 = .node k num nm kids ∧ Inv w0 Z b X E σ bl ((A, kids) :: ks) w'
section
set_option maxHeartbeats 2000000
set_option maxRecDepth 100000
variable {w0 : World} {Z : Nat → Prop} {b : Nat} {X : Loc} {E : PP.Env} {σ : PP.St} {bl : List OwnB} {ks : List (Option Addr × List Tree)} {W : World}
theorem finish_inv (h : Inv w0 Z b X E σ bl ks W) (k : Nat) (num : Int) (nm : List UInt8) (A : Option Addr) (c : Nat) (kids : List Tree) (hm : (A, kids) ∈ ks) (hs : σ.err = 0 → PP.sizeL kids ≤ 1000000) :
    Calls Tryd.prog 64 #[.pointer (some ⟨b, 0, none⟩), .agg #[.int .u8 (k : Int), .int .i64 num, .string ⟨nm.toArray⟩, .slice A kids.length c]] W (FinEnd w0 Z b X E (PP.limitP (.node k num nm kids) 0 σ) (.node k num nm kids) bl ks) := by
  have I1 := (h.alloc #[.int .u8 (k : Int), .int .i64 num, .string ⟨nm.toArray⟩, .slice A kids.length c] 24 rfl).alloc #[.int .u8 0, .int .i64 0, .string ⟨#[]⟩, .slice none 0 0] 24 (n := W.heap.size + 1) (by simp)
  have HL := Lib.hid (limit_inv I1 0 k num nm A c kids hm hs)
  have hm' := Lib.hid hm
  generalize PP.limitP (.node k num nm kids) 0 σ = σ' at *
  clear I1 h hm hs
  go_enter Tryd.func64, Tryd.ntmps64
  go_wp2_with fail
  refine HL.out.mono ?_
  rintro e w2 ⟨rfl, I2⟩
  have hb := I2.ne (x := (W.heap.size + 1, 24, #[.int .u8 0, .int .i64 0, .string ⟨#[]⟩, .slice none 0 0])) (by simp)
  obtain ⟨hb1, hb2⟩ := hb
  have c4 := I2.ps.cells.2.2.2.2.1
  have c5 := I2.ps.cells.2.2.2.2.2
  obtain ⟨⟨n0, n1, n2, n3⟩, _, _, _, _⟩ := I2.b1.four
  obtain ⟨⟨r0, r1, r2, r3⟩, q0, q1, q2, q3⟩ := I2.b0.four
  have HQ := Lib.hid (fun v0 v1 v2 v3 => I2.st0 v0 v1 v2 v3)
  have HQd := Lib.hid (fun v0 v1 v2 v3 => I2.drew.st0 v0 v1 v2 v3)
  clear I2 HL
  by_cases he : σ'.err = 0
  · have e1 : ((σ'.err : Int) != 0) = false := by simp [he]
    have HE := Lib.hid he
    clear he
    go_wp2_with fail
    refine bodyPost_ret (node3_result rfl rfl (HQ.out _ _ _ _).b0) rfl ?_
    refine ⟨k, num, nm, A, c, kids, ?_, ?_, ((HQ.out _ _ _ _).drop.drop).addKs (((HQ.out _ _ _ _).drop.drop).ks _ hm'.out)⟩
    · unfold PP.out; rw [if_pos HE.out]; rfl
    · unfold PP.out; rw [if_pos HE.out]
  · have e1 : ((σ'.err : Int) != 0) = true := by simpa using he
    have HE := Lib.hid he
    clear he
    go_wp2_with fail
    go_region
    all_goals
      go_wp2_with fail
      refine bodyPost_ret (node3_result rfl rfl (HQd.out _ _ _ _).b0) rfl ?_
      refine ⟨0, 0, [], none, 0, [], ?_, ?_, ((HQd.out _ _ _ _).drop.drop).addKs (KidsC.nil _ _ _)⟩
      · unfold PP.out; rw [if_neg HE.out]; rfl
      · unfold PP.out; rw [if_neg HE.out]; rfl
end
end Go.Proofs.YtaaaicpjlaeiiaaDoor
