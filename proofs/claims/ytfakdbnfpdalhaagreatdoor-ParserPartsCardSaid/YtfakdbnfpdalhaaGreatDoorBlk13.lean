/- The contract of parser.Block. -/
import Derived.Test.YtfakdbnfpdalhaaGreatDoorKF
namespace Go.Proofs.YtfakdbnfpdalhaaGreatDoor
open Go.RowKit Go.Maps
open PP (Tree)
def BlockEnd (s : ByteArray) (w : World) (r : Ending) (w' : World) : Prop :=
  ∃ v n q, PP.blockP (envOf s) n (sigOf s) = some q ∧ r = .returned (.tuple #[v, .int .i64 ((PP.out PP.zeroT q).2.1 : Int), .int .i64 ((PP.out PP.zeroT q).2.2 : Int)]) ∧ NodeV w' (w.heap.size ≤ ·) v (PP.out PP.zeroT q).1 ∧ Below w.heap.size w w'
theorem cf_more (v : Value) (W : World) : Sem.run Tryz.prog (callFunc 34 #[v]) W = .ok (Next.enter 34 #[v]) W := by kernel_rfl
section
set_option maxHeartbeats 2000000
set_option maxRecDepth 100000
theorem block13_any (s : ByteArray) (w : World) (hs : s.size ≤ maxLen) (hg : SignsIs w) (hO : OpsIs w) : Calls Tryz.prog 12 #[.string s] w (BlockEnd s w) := by
  have hmf : ∀ (fn : Fn) (first cap : Array Value) (w : World), (Instr.makeFunc fn first cap).run Tryz.prog w = .ok (.func fn first cap) w := fun _ _ _ _ => rfl
  have hb0 : Below w.heap.size w (w.alloc (.cells #[.int .u8 0, .int .i64 0, .string ⟨#[]⟩, .slice none 0 0] 36)) := (Below.refl _ _).alloc (Nat.le_refl _) _
  have hst := start_any s (w.alloc (.cells #[.int .u8 0, .int .i64 0, .string ⟨#[]⟩, .slice none 0 0] 36)) hs (hg.below hb0 hg.pos) (hO.below hb0)
  have hR0 := Blk.new w 36 #[.int .u8 0, .int .i64 0, .string ⟨#[]⟩, .slice none 0 0]
  have HST := Lib.hid hst
  have HB0 := Lib.hid hb0
  have HR0 := Lib.hid hR0
  clear hst hb0 hR0 hg hO
  go_enter Tryz.func12, Tryz.ntmps12
  go_wp2_with fail
  refine HST.out.mono ?_
  rintro e w1 ⟨b, X, rfl, hgx, hp, hb1, hbb⟩
  have hbb' : w.heap.size + 1 ≤ b := by have := hbb; simp at this; exact this
  have hR1 : Blk w1 w.heap.size 36 #[.int .u8 0, .int .i64 0, .string ⟨#[]⟩, .slice none 0 0] := (hb1.block _ (by simp)).trans HR0.out
  have hB1 : Below w.heap.size w w1 := HB0.out.trans (hb1.mono (by simp))
  have hp' : PS w1 b X (envOf s) (sigOf s) := hp
  have I0 := Inv.start (Z := NoZ) hp' hgx (fun h => h)
  have HE := Lib.hid (sequence_any true _ I0.gx I0.ps 34 46 #[.pointer (some ⟨b, 0, none⟩)] #[] #[.pointer (some ⟨b, 0, none⟩)] #[]
    (fun W => cf_more _ W) (fun W => cf_stmt _ W) (fun σ' W hp _ => by
      rw [show PP.goes (envOf s) true σ' = PP.more (envOf s) σ' from by simp [PP.goes]]
      exact more_any W hp) (fun σ' W hg hp _ _ => statement_any σ' W hg hp))
  have HI0 := Lib.hid I0
  have HR1 := Lib.hid hR1
  have HB1 := Lib.hid hB1
  clear hgx hp hp' hb1 hbb hR1 hB1 I0 HST HB0 HR0
  go_wp2_with fail
  refine HE.out.mono ?_
  rintro e w2 ⟨A2, c2, kids2, σ2, rfl, hk2, hp2, hf2, ⟨m2, hr2⟩, hn2⟩
  have I2 := HI0.out.tree hp2 hf2 hk2
  have hsz : σ2.err = 0 → PP.sizeL kids2 ≤ 1000000 := by
    intro he
    have h1 := (PP.stmt_size (envOf s) m2).1 _ _ _ _ hr2 he
    have h2 := I2.ps.next
    have h3 := I2.ps.len
    simp only [PP.sizeL] at h1
    omega
  have HF := Lib.hid (finish_inv I2 47 0 [] A2 c2 kids2 (by simp) hsz)
  have HR2 := Lib.hid hr2
  clear hk2 hp2 hf2 hr2 hn2 I2 hsz HE
  go_wp2_with fail
  refine HF.out.mono ?_
  rintro e w5 ⟨k, num, nm, A, c, kids, rfl, hout, I5⟩
  have hR5 := HR1.out.fr I5.fr (by omega)
  obtain ⟨⟨r0, r1, r2, r3⟩, q0, q1, q2, q3⟩ := hR5.four
  have HR5 := Lib.hid (fun v0 v1 v2 v3 => hR5.st4 v0 v1 v2 v3)
  have HI5 := Lib.hid I5
  have HOUT := Lib.hid hout
  clear I5 hR5 hout HF
  go_wp2_with fail
  refine bodyPost_ret (node3_result rfl rfl (HR5.out _ _ _ _)) rfl ?_
  refine ⟨_, m2, (PP.limitP (.node 47 0 [] kids2) 0 σ2, .node 47 0 [] kids2), ?_, rfl, ?_, ?_⟩
  · unfold PP.blockP; rw [HR2.out]; rfl
  · rw [HOUT.out]
    refine ⟨k, num, nm, A, c, kids, rfl, rfl, ?_⟩
    have h1 := (HI5.out.ks (A, kids) (by simp)).weak (Z' := (w1.heap.size ≤ ·)) (fun g hg _ => hg.1.resolve_left (fun h => h))
    have h2 := HB1.out.size
    have h3 := HR1.out.lt
    exact (h1.keep ((Keep.refl _ _).st4 (g := w.heap.size) (by intro h; have : w1.heap.size ≤ w.heap.size := h; omega) _ _ _ _)).weak (fun g hg _ => by have : w1.heap.size ≤ g := hg; show w.heap.size ≤ g; omega)
  · have h1 := below_fr HB1.out HI5.out.fr (by omega) HB1.out.size
    exact (((h1.setCell (p := ⟨w.heap.size, 0, none⟩) (Nat.le_refl _) _).setCell (p := ⟨w.heap.size, 1, none⟩) (Nat.le_refl _) _).setCell (p := ⟨w.heap.size, 2, none⟩) (Nat.le_refl _) _).setCell (p := ⟨w.heap.size, 3, none⟩) (Nat.le_refl _) _
end
end Go.Proofs.YtfakdbnfpdalhaaGreatDoor
