/- The contracts of the reference's Block and Expr. -/
import Derived.Test.YtfakdbnfpdalhaaGreatDoorRdJ
import Derived.Test.YtfakdbnfpdalhaaGreatDoorBlk13
namespace Go.Proofs.YtfakdbnfpdalhaaGreatDoor
open Go.RowKit Go.Maps
open PP (Tree)
/-- The outcome of finish at a tree that is alike where there is no error. -/
theorem out_alike {E : PP.Env} {σ : PP.St} {t t' : Tree} (h : σ.err = 0 → t = t') : PP.out PP.zeroT (endSt E t σ, t) = PP.out PP.zeroT (endSt E t' σ, t') := by
  by_cases he : σ.err = 0
  · rw [h he]
  · have hmo : PP.more E σ = false := by simp [PP.more, he]
    have e : ∀ t, endSt E t σ = σ := fun t => by unfold endSt; rw [hmo]; unfold PP.limitP; simp [he]
    unfold PP.out
    rw [e t, e t']
    simp [he]
def RefEnd (s : ByteArray) (F : Nat → Option (PP.St × Tree)) (w : World) (r : Ending) (w' : World) : Prop :=
  ∃ v n q, F n = some q ∧ r = .returned (.tuple #[v, .int .i64 ((PP.out PP.zeroT (endSt (envOf s) q.2 q.1, q.2)).2.1 : Int), .int .i64 ((PP.out PP.zeroT (endSt (envOf s) q.2 q.1, q.2)).2.2 : Int)]) ∧ NodeV w' (w.heap.size ≤ ·) v (PP.out PP.zeroT (endSt (envOf s) q.2 q.1, q.2)).1 ∧ Below w.heap.size w w'
section
set_option maxHeartbeats 2000000
set_option maxRecDepth 100000
theorem refend_of {s : ByteArray} {w w1 : World} {b : Nat} {Y : RLoc} {σ2 : PP.St} {F : Nat → Option (PP.St × Tree)} {bl : List OwnB} {ks : List (Option Addr × List Tree)} {k2 : Nat} {num2 : Int} {nm2 : List UInt8} {kids2 : List Tree}
    (hal : Alike F σ2 (.node k2 num2 nm2 kids2)) (hB1 : Below w.heap.size w w1) (hb : w.heap.size ≤ b) {k : Nat} {num : Int} {nm : List UInt8} {A : Option Addr} {c : Nat} {kids : List Tree} {w5 : World}
    (hout : (PP.out PP.zeroT (endSt (envOf s) (.node k2 num2 nm2 kids2) σ2, .node k2 num2 nm2 kids2)).1 = .node k num nm kids) {σ' : PP.St} (I5 : RInv w1 NoZ b Y (envOf s) σ' bl ((A, kids) :: ks) w5) (hlt : w.heap.size < w1.heap.size) (v0 v1 v2 v3 : Value) :
    RefEnd s F w (.returned (.tuple #[.agg #[.int .u8 (k : Int), .int .i64 num, .string ⟨nm.toArray⟩, .slice A kids.length c], .int .i64 ((PP.out PP.zeroT (endSt (envOf s) (.node k2 num2 nm2 kids2) σ2, .node k2 num2 nm2 kids2)).2.1 : Int), .int .i64 ((PP.out PP.zeroT (endSt (envOf s) (.node k2 num2 nm2 kids2) σ2, .node k2 num2 nm2 kids2)).2.2 : Int)]))
      ((((w5.setCell ⟨w.heap.size, 0, none⟩ v0).setCell ⟨w.heap.size, 1, none⟩ v1).setCell ⟨w.heap.size, 2, none⟩ v2).setCell ⟨w.heap.size, 3, none⟩ v3) := by
  obtain ⟨n, t', hF, ht⟩ := hal
  have ho := out_alike (E := envOf s) ht
  refine ⟨_, n, (σ2, t'), hF, by simp only []; rw [← ho], ?_, ?_⟩
  · simp only []
    rw [← ho, hout]
    refine ⟨k, num, nm, A, c, kids, rfl, rfl, ?_⟩
    have h1 := (I5.ks (A, kids) (by simp)).weak (Z' := (w1.heap.size ≤ ·)) (fun g hg _ => hg.1.resolve_left (fun h => h))
    exact (h1.keep ((Keep.refl _ _).st4 (g := w.heap.size) (by intro h; have : w1.heap.size ≤ w.heap.size := h; omega) v0 v1 v2 v3)).weak (fun g hg _ => by have : w1.heap.size ≤ g := hg; show w.heap.size ≤ g; omega)
  · have h1 := below_fr hB1 I5.fr hb hB1.size
    exact (((h1.setCell (p := ⟨w.heap.size, 0, none⟩) (Nat.le_refl _) v0).setCell (p := ⟨w.heap.size, 1, none⟩) (Nat.le_refl _) v1).setCell (p := ⟨w.heap.size, 2, none⟩) (Nat.le_refl _) v2).setCell (p := ⟨w.heap.size, 3, none⟩) (Nat.le_refl _) v3
theorem refexpr_any (s : ByteArray) (w : World) (hs : s.size ≤ 65536) : Calls Tryz.prog 16 #[.string s] w (RefEnd s (fun n => PP.binary (envOf s) n 0 (sigOf s)) w) := by
  have hb0 : Below w.heap.size w (w.alloc (.cells #[.int .u8 0, .int .i64 0, .string ⟨#[]⟩, .slice none 0 0] 36)) := (Below.refl _ _).alloc (Nat.le_refl _) _
  have hst := ropen_any s (w.alloc (.cells #[.int .u8 0, .int .i64 0, .string ⟨#[]⟩, .slice none 0 0] 36)) hs
  have hR0 := Blk.new w 36 #[.int .u8 0, .int .i64 0, .string ⟨#[]⟩, .slice none 0 0]
  have HST := Lib.hid hst
  have HB0 := Lib.hid hb0
  have HR0 := Lib.hid hR0
  clear hst hb0 hR0
  go_enter Tryz.func16, Tryz.ntmps16
  go_wp2_with fail
  refine HST.out.mono ?_
  rintro e w1 ⟨b, Y, rfl, hbb, hp, hb1⟩
  have hbb' : w.heap.size + 1 ≤ b := by have := hbb; simp at this; exact this
  have hR1 : Blk w1 w.heap.size 36 #[.int .u8 0, .int .i64 0, .string ⟨#[]⟩, .slice none 0 0] := (hb1.block _ (by simp)).trans HR0.out
  have hB1 : Below w.heap.size w w1 := HB0.out.trans (hb1.mono (by simp))
  have I0 := RInv.start (Z := NoZ) hp (fun h => h)
  have HE := Lib.hid (rtree_inv I0 (rexpr_all (sigOf s) w1 0 1 PP.lev_start (by omega) I0.ps))
  have HR1 := Lib.hid hR1
  have HB1 := Lib.hid hB1
  clear hp hb1 hbb hR1 hB1 I0 HST HB0 HR0
  go_wp2_with fail
  refine HE.out.mono ?_
  rintro e w2 ⟨k2, num2, nm2, A2, c2, kids2, σ2, rfl, I2, hal⟩
  have I3 := I2.alloc #[.int .u8 (k2 : Int), .int .i64 num2, .string ⟨nm2.toArray⟩, .slice A2 kids2.length c2] 36 rfl
  have hsz : σ2.err = 0 → PP.sizeL kids2 ≤ 1000000 := by
    intro he
    obtain ⟨m2, t', hr2, ht⟩ := hal
    have h1 := (PP.expr_size (envOf s) m2).2.2.2.1 _ _ _ hr2 he
    rw [← ht he] at h1
    have h2 := I2.ps.next he
    have h3 := I2.ps.len
    simp only [PP.Tree.size] at h1
    omega
  have HF := Lib.hid (rfinish_inv I3 k2 num2 nm2 A2 c2 kids2 (by simp) hsz)
  obtain ⟨⟨n0, n1, n2, n3⟩, _, _, _, _⟩ := I3.b0.four
  have HAL := Lib.hid hal
  clear I2 I3 hsz HE hal
  go_wp2_with fail
  refine HF.out.mono ?_
  rintro e w5 ⟨k, num, nm, A, c, kids, rfl, hout, I5⟩
  have hR5 := HR1.out.fr I5.fr (by omega)
  obtain ⟨⟨r0, r1, r2, r3⟩, q0, q1, q2, q3⟩ := hR5.four
  have HR5 := Lib.hid (fun v0 v1 v2 v3 => hR5.st4 v0 v1 v2 v3)
  have HI5 := Lib.hid I5
  have HOUT := Lib.hid hout
  clear I5 hR5 hout HF n0 n1 n2 n3
  go_wp2_with fail
  refine bodyPost_ret (node3_result rfl rfl (HR5.out _ _ _ _)) rfl ?_
  exact refend_of HAL.out HB1.out (by omega) HOUT.out HI5.out HR1.out.lt _ _ _ _
theorem refblock_any (s : ByteArray) (w : World) (hs : s.size ≤ 65536) : Calls Tryz.prog 13 #[.string s] w (RefEnd s (fun n => (PP.stmts (envOf s) n false (sigOf s) []).map fun r => (r.1, .node 47 0 [] r.2)) w) := by
  have hb0 : Below w.heap.size w (w.alloc (.cells #[.int .u8 0, .int .i64 0, .string ⟨#[]⟩, .slice none 0 0] 36)) := (Below.refl _ _).alloc (Nat.le_refl _) _
  have hst := ropen_any s (w.alloc (.cells #[.int .u8 0, .int .i64 0, .string ⟨#[]⟩, .slice none 0 0] 36)) hs
  have hR0 := Blk.new w 36 #[.int .u8 0, .int .i64 0, .string ⟨#[]⟩, .slice none 0 0]
  have HST := Lib.hid hst
  have HB0 := Lib.hid hb0
  have HR0 := Lib.hid hR0
  clear hst hb0 hR0
  go_enter Tryz.func13, Tryz.ntmps13
  go_wp2_with fail
  refine HST.out.mono ?_
  rintro e w1 ⟨b, Y, rfl, hbb, hp, hb1⟩
  have hbb' : w.heap.size + 1 ≤ b := by have := hbb; simp at this; exact this
  have hR1 : Blk w1 w.heap.size 36 #[.int .u8 0, .int .i64 0, .string ⟨#[]⟩, .slice none 0 0] := (hb1.block _ (by simp)).trans HR0.out
  have hB1 : Below w.heap.size w w1 := HB0.out.trans (hb1.mono (by simp))
  have I0 := RInv.start (Z := NoZ) hp (fun h => h)
  have HE := Lib.hid (rtree_inv I0 (rsts_all (sigOf s) w1 I0.ps))
  have HR1 := Lib.hid hR1
  have HB1 := Lib.hid hB1
  clear hp hb1 hbb hR1 hB1 I0 HST HB0 HR0
  go_wp2_with fail
  refine HE.out.mono ?_
  rintro e w2 ⟨k2, num2, nm2, A2, c2, kids2, σ2, rfl, I2, hal⟩
  have I3 := I2.alloc #[.int .u8 (k2 : Int), .int .i64 num2, .string ⟨nm2.toArray⟩, .slice A2 kids2.length c2] 36 rfl
  have hsz : σ2.err = 0 → PP.sizeL kids2 ≤ 1000000 := by
    intro he
    obtain ⟨m2, t', hr2, ht⟩ := hal
    obtain ⟨x, hx, hx2⟩ := Option.map_eq_some_iff.1 hr2
    injection hx2 with e1 e2
    have h1 := (PP.stmt_size (envOf s) m2).1 _ _ _ _ hx (by rw [e1]; exact he)
    have e3 := ht he
    rw [← e2] at e3
    injection e3 with _ _ _ e3
    rw [← e3, e1] at h1
    have h2 := I2.ps.next he
    have h3 := I2.ps.len
    simp only [PP.sizeL] at h1
    omega
  have HF := Lib.hid (rfinish_inv I3 k2 num2 nm2 A2 c2 kids2 (by simp) hsz)
  obtain ⟨⟨n0, n1, n2, n3⟩, _, _, _, _⟩ := I3.b0.four
  have HAL := Lib.hid hal
  clear I2 I3 hsz HE hal
  go_wp2_with fail
  refine HF.out.mono ?_
  rintro e w5 ⟨k, num, nm, A, c, kids, rfl, hout, I5⟩
  have hR5 := HR1.out.fr I5.fr (by omega)
  obtain ⟨⟨r0, r1, r2, r3⟩, q0, q1, q2, q3⟩ := hR5.four
  have HR5 := Lib.hid (fun v0 v1 v2 v3 => hR5.st4 v0 v1 v2 v3)
  have HI5 := Lib.hid I5
  have HOUT := Lib.hid hout
  clear I5 hR5 hout HF n0 n1 n2 n3
  go_wp2_with fail
  refine bodyPost_ret (node3_result rfl rfl (HR5.out _ _ _ _)) rfl ?_
  exact refend_of HAL.out HB1.out (by omega) HOUT.out HI5.out HR1.out.lt _ _ _ _
end
end Go.Proofs.YtfakdbnfpdalhaaGreatDoor
