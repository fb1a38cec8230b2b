/- The contracts of the parser's statements and block, from that of its statement. -/
import Derived.Test.YtaaaicpjlaeiiaaDoorParL
namespace Go.Proofs.YtaaaicpjlaeiiaaDoor
open Go.RowKit Go.Maps
open PP (Tree)

section
set_option maxHeartbeats 1000000
set_option maxRecDepth 100000
variable {b : Nat} {X : Loc} {E : PP.Env} {σ : PP.St}
theorem goes_any (w : World) (g : Nat) (h : PS w b X E σ) (hB : Blk w g 95 #[.pointer (some ⟨b, 0, none⟩)]) :
    Calls Tryd.prog 128 #[.pointer (some ⟨g, 0, none⟩)] w fun e w' => e = .returned (.bool (PP.goes E false σ)) ∧ ∃ n, w' = w.drewN n := by
  have hc : w.cell? ⟨g, 0, none⟩ = some (.pointer (some ⟨b, 0, none⟩)) := hB.cell 0
  have hm := more_any w h
  have hs := fun n => sees_any ⟨#[125]⟩ (w.drewN n) (h.drewN n)
  have hnot : ∀ (x : Bool) (w : World), (Op.unary .not (.bool x)).run Tryd.prog w = .ok (.bool (!x)) w := fun _ _ => rfl
  have hgo : PP.goes E false σ = (PP.more E σ && !PP.sees E σ [125]) := by simp [PP.goes]
  rw [show (⟨#[125]⟩ : ByteArray).data.toList = [125] from rfl] at hs
  generalize hG : PP.goes E false σ = G at *
  cases hmo : PP.more E σ with
  | false =>
    rw [hmo] at hm hgo
    simp only [Bool.false_and] at hgo
    subst hgo
    have HM := Lib.hid hm
    clear hm hs hmo h hB hG
    go_enter Tryd.func128, Tryd.ntmps128
    go_wp2_with fail
    refine HM.out.mono ?_
    rintro e w1 ⟨rfl, n1, rfl⟩
    go_wp2_with fail
    go_ret
    exact ⟨rfl, n1, rfl⟩
  | true =>
    rw [hmo] at hm hgo
    simp only [Bool.true_and] at hgo
    subst hgo
    have HM := Lib.hid hm
    have HS := Lib.hid hs
    clear hm hs hmo h hB hG
    go_enter Tryd.func128, Tryd.ntmps128
    go_wp2_with fail
    refine HM.out.mono ?_
    rintro e w1 ⟨rfl, n1, rfl⟩
    go_wp2_with fail
    refine (HS.out n1).mono ?_
    rintro e w2 ⟨rfl, n2, rfl⟩
    go_wp2_with fail
    go_ret
    exact ⟨rfl, n1 + n2, rfl⟩
theorem cf_goes (v : Value) (W : World) : Sem.run Tryd.prog (callFunc 128 #[v]) W = .ok (Next.enter 128 #[v]) W := by kernel_rfl
theorem cf_stmt (v : Value) (W : World) : Sem.run Tryd.prog (callFunc 129 #[v]) W = .ok (Next.enter 129 #[v]) W := by kernel_rfl
def StmtOk (b : Nat) (X : Loc) (E : PP.Env) (σ' : PP.St) : Prop := ∀ W, Gx W b X → PS W b X E σ' → Calls Tryd.prog 129 #[.pointer (some ⟨b, 0, none⟩)] W (TreeEnd b X E σ' W fun σ'' t => ∃ n, PP.statement E n σ' = some (σ'', t))
theorem statements_of (w : World) (hg : Gx w b X) (h : PS w b X E σ) (HS : ∀ σ', σ.next ≤ σ'.next → StmtOk b X E σ') :
    Calls Tryd.prog 108 #[.pointer (some ⟨b, 0, none⟩)] w (SeqEnd b X E σ false w) := by
  have hmf : ∀ (fn : Fn) (first cap : Array Value) (w : World), (Instr.makeFunc fn first cap).run Tryd.prog w = .ok (.func fn first cap) w := fun _ _ _ _ => rfl
  have hbl := h.lt
  have hB := Blk.new w 95 #[.pointer (some ⟨b, 0, none⟩)]
  have hf := (Fr.refl b w).alloc (.cells #[.pointer (some ⟨b, 0, none⟩)] 95)
  have hseq := sequence_any false _ (hg.fr hf) (h.alloc (.cells #[.pointer (some ⟨b, 0, none⟩)] 95)) 128 129 #[] #[.pointer (some ⟨w.heap.size, 0, none⟩)] #[.pointer (some ⟨b, 0, none⟩)] #[]
    (fun W => cf_goes _ W) (fun W => cf_stmt _ W) (fun σ' W hp hf => goes_any W w.heap.size hp (hB.fr hf (by omega))) (fun σ' W hg hp hn _ => HS σ' hn W hg hp)
  have HSEQ := Lib.hid hseq
  have hc : (w.alloc (.cells #[.pointer (some ⟨b, 0, none⟩)] 95)).cell? ⟨w.heap.size, 0, none⟩ = some (.pointer (some ⟨b, 0, none⟩)) := hB.cell 0
  clear hseq hg h HS hB hf hc
  go_enter Tryd.func108, Tryd.ntmps108
  go_wp2_with fail
  refine HSEQ.out.mono ?_
  rintro e w1 ⟨A, c, ts, σ1, rfl, hk, hp, hf, hr, hn⟩
  go_wp2_with fail
  go_ret
  exact ⟨A, c, ts, σ1, rfl, hk.weak (fun g hg _ => by have h1 : (w.alloc (.cells #[.pointer (some ⟨b, 0, none⟩)] 95)).heap.size ≤ g := hg; simp at h1; omega), hp, ((Fr.refl b w).alloc _).trans hf, hr, hn⟩
theorem block_of (w : World) (hg : Gx w b X) (h : PS w b X E σ) (HS : ∀ σ', σ.next ≤ σ'.next → StmtOk b X E σ') :
    Calls Tryd.prog 142 #[.pointer (some ⟨b, 0, none⟩)] w (TreeEnd b X E σ w fun σ' t => ∃ n, PP.block E n σ = some (σ', t)) := by
  have hbl := h.lt
  have I0 := (Inv.start (Z := NoZ) h hg (fun h => h)).alloc #[.int .u8 0, .int .i64 0, .string ⟨#[]⟩, .slice none 0 0] 24 rfl
  have HI0 := Lib.hid I0
  have HHS := Lib.hid HS
  clear I0 h hg HS
  go_enter Tryd.func142, Tryd.ntmps142
  go_wp2_with fail
  refine (require_inv ⟨#[123]⟩ HI0.out).mono ?_
  rintro e w1 ⟨rfl, I1⟩
  have hle := PP.le_require E σ [123]
  have hst := statements_of w1 I1.gx I1.ps (fun σ' hn => HHS.out σ' (Nat.le_trans hle.1 hn))
  have HST := Lib.hid hst
  have HI1 := Lib.hid I1
  clear hst I1 HI0
  go_wp2_with fail
  refine HST.out.mono ?_
  rintro e w2 ⟨A, c, ts, σ2, rfl, hk2, hp2, hf2, ⟨m2, hr2⟩, hn2⟩
  have I2 := HI1.out.tree hp2 hf2 hk2
  have HI3 := Lib.hid (I2.alloc #[.int .u8 47, .int .i64 0, .string ⟨#[]⟩, .slice A ts.length c] 24 rfl)
  have hfin : PP.block E (m2 + 1) σ = some (PP.require E σ2 [125], .node 47 0 [] ts) := by
    rw [PP.block, show PP.stmts E m2 false (PP.require E σ [123]) [] = some (σ2, ts) from hr2]; rfl
  have hnn : σ.next ≤ (PP.require E σ2 [125]).next := Nat.le_trans (Nat.le_trans hle.1 hn2) (PP.le_require E σ2 [125]).1
  have HR2 := Lib.hid hfin
  clear hk2 hp2 hf2 I2 hr2 hfin
  go_wp2_with fail
  refine (require_inv ⟨#[125]⟩ HI3.out).mono ?_
  rintro e w4 ⟨rfl, I4⟩
  obtain ⟨⟨n0, n1, n2, n3⟩, _, _, _, _⟩ := I4.b0.four
  obtain ⟨⟨r0, r1, r2, r3⟩, q0, q1, q2, q3⟩ := I4.b1.four
  have HQ := Lib.hid (fun v0 v1 v2 v3 => I4.st1 v0 v1 v2 v3)
  clear I4 HI3 HI1
  go_wp2_with fail
  refine bodyPost_ret (node_result rfl rfl (HQ.out _ _ _ _).b1) rfl ?_
  exact (HQ.out _ _ _ _).done (k := 47) (num := 0) (nm := []) (c := c) (A := A) (kids := ts) (by simp) ⟨_, HR2.out⟩ hnn
end
end Go.Proofs.YtaaaicpjlaeiiaaDoor
