/- The examples of the parser's chapter. -/
import Derived.Test.YtaaaicpjlaeiiaaDoorParX
namespace Go.Proofs.YtaaaicpjlaeiiaaDoor
open Go.RowKit Go.Maps
open PP (Tree ArrD TaskD ProgD)

theorem exprP_det {E : PP.Env} {n m : Nat} {σ : PP.St} {q q' : PP.St × Tree} (h : PP.exprP E n σ = some q) (h' : PP.exprP E m σ = some q') : q = q' :=
  Option.some.inj ((PP.exprP_le E (Nat.le_max_left n m) h).symm.trans (PP.exprP_le E (Nat.le_max_right n m) h'))
theorem programP_det {E : PP.Env} {n m : Nat} {σ : PP.St} {q q' : PP.St × ProgD} (h : PP.programP E n σ = some q) (h' : PP.programP E m σ = some q') : q = q' :=
  Option.some.inj ((PP.programP_le E (Nat.le_max_left n m) h).symm.trans (PP.programP_le E (Nat.le_max_right n m) h'))
/-- The children of a node, one by one. -/
theorem KidsC.at_ {w : World} {Z : Nat → Prop} {A : Option Addr} {kids : List Tree} (h : KidsC w Z A kids) (hn : kids ≠ []) : ∃ g o, A = some ⟨g, o, none⟩ ∧ Z g ∧ g < w.heap.size ∧ ∀ i t, kids[i]? = some t → ∃ k num nm A' c ks, t = .node k num nm ks ∧
    (w.cell? ⟨g, o + i * 4, none⟩ = some (.int .u8 ((k : Nat) : Int)) ∧ w.cell? ⟨g, o + i * 4 + 1, none⟩ = some (.int .i64 num) ∧ w.cell? ⟨g, o + i * 4 + 2, none⟩ = some (.string ⟨(nm : List UInt8).toArray⟩) ∧ w.cell? ⟨g, o + i * 4 + 3, none⟩ = some (.slice A' (ks : List Tree).length c)) ∧ KidsC w Z A' ks := by
  cases h with
  | mk _ _ g o K N S AA C KS hA hk hc hh =>
    obtain ⟨h1, h2, h3⟩ := hA hn
    refine ⟨g, o, h1, h2, h3, fun i t hi => ?_⟩
    have hlt : i < kids.length := (List.getElem?_eq_some_iff.1 hi).1
    have e := (hk i hlt).symm.trans hi
    injection e with e
    exact ⟨K i, N i, S i, AA i, C i, KS i, e.symm, hc i hlt, hh i hlt⟩
/-- The contract of Expr at a text whose tree is known. -/
theorem expr_at (s : ByteArray) (w : World) (hs : s.size ≤ maxLen) (hg : SignsIs w) (hO : OpsIs w) {n : Nat} {q : PP.St × Tree} (hq : PP.exprP (envOf s) n (sigOf s) = some q) : Calls Tryd.prog 28 #[.string s] w fun r w' =>
    ∃ v, r = .returned (.tuple #[v, .int .i64 ((PP.out PP.zeroT q).2.1 : Int), .int .i64 ((PP.out PP.zeroT q).2.2 : Int)]) ∧ NodeV w' (w.heap.size ≤ ·) v (PP.out PP.zeroT q).1 ∧ Below w.heap.size w w' :=
  (expr_any s w hs hg hO).mono fun _ _ ⟨v, _, _, h1, h2, h3, h4⟩ => ⟨v, by rw [h2, exprP_det h1 hq], by rw [← exprP_det h1 hq]; exact h3, h4⟩
theorem program_at (s : ByteArray) (w : World) (hs : s.size ≤ maxLen) (hg : SignsIs w) (hO : OpsIs w) {n : Nat} {q : PP.St × ProgD} (hq : PP.programP (envOf s) n (sigOf s) = some q) : Calls Tryd.prog 32 #[.string s] w fun r w' =>
    ∃ va vt ba els bt bx kx, r = .returned (.tuple #[.agg #[va, vt], .int .i64 ((PP.out zeroP q).2.1 : Int), .int .i64 ((PP.out zeroP q).2.2 : Int)]) ∧ ProgV w' w.heap.size va vt (PP.out zeroP q).1 ba els bt bx kx ∧ Below w.heap.size w w' :=
  (program_any s w hs hg hO).mono fun _ _ ⟨va, vt, _, _, ba, els, bt, bx, kx, h1, h2, h3, h4⟩ => ⟨va, vt, ba, els, bt, bx, kx, by rw [h2, programP_det h1 hq], by rw [← programP_det h1 hq]; exact h3, h4⟩

def awS : ByteArray := ⟨#[49, 32, 45, 32, 50, 32, 45, 32, 51, 32, 42, 32, 120]⟩
def awT : ByteArray := ⟨#[116, 97, 115, 107, 32, 116, 32, 112, 101, 114, 105, 111, 100, 32, 53, 32, 123, 32, 120, 32, 43, 61, 32, 49, 59, 32, 125]⟩
theorem aw_expr : PP.exprP (envOf awS) 40 (sigOf awS) = some (⟨7, 0, 0⟩, .node 7 0 [] [.node 7 0 [] [.node 1 1 [] [], .node 1 2 [] []], .node 8 0 [] [.node 1 3 [] [], .node 2 0 [120] []]]) := by kernel_rfl
theorem aw_prog : (PP.programP (envOf awT) 40 (sigOf awT)).map (fun q => (q.1.off, q.1.err)) = some (20, 3) := by kernel_rfl
theorem NodeV.two {w : World} {Z : Nat → Prop} {v : Value} {k : Nat} {num : Int} {nm : List UInt8} {t1 t2 : Tree} (h : NodeV w Z v (.node k num nm [t1, t2])) : ∃ g o c k1 num1 nm1 A1 c1 ks1 k2 num2 nm2 A2 c2 ks2,
    v = .agg #[.int .u8 (k : Int), .int .i64 num, .string ⟨nm.toArray⟩, .slice (some ⟨g, o, none⟩) 2 c] ∧ g < w.heap.size ∧ Z g ∧ t1 = .node k1 num1 nm1 ks1 ∧ t2 = .node k2 num2 nm2 ks2 ∧
    (w.cell? ⟨g, o, none⟩ = some (.int .u8 ((k1 : Nat) : Int)) ∧ w.cell? ⟨g, o + 1, none⟩ = some (.int .i64 num1) ∧ w.cell? ⟨g, o + 2, none⟩ = some (.string ⟨(nm1 : List UInt8).toArray⟩) ∧ w.cell? ⟨g, o + 3, none⟩ = some (.slice A1 (ks1 : List Tree).length c1)) ∧
    (w.cell? ⟨g, o + 4, none⟩ = some (.int .u8 ((k2 : Nat) : Int)) ∧ w.cell? ⟨g, o + 4 + 1, none⟩ = some (.int .i64 num2) ∧ w.cell? ⟨g, o + 4 + 2, none⟩ = some (.string ⟨(nm2 : List UInt8).toArray⟩) ∧ w.cell? ⟨g, o + 4 + 3, none⟩ = some (.slice A2 (ks2 : List Tree).length c2)) ∧ KidsC w Z A1 ks1 ∧ KidsC w Z A2 ks2 := by
  obtain ⟨k', num', nm', A, c, kids, rfl, ht, hk⟩ := h
  injection ht with e1 e2 e3 e4
  subst e1 e2 e3 e4
  obtain ⟨g, o, rfl, hz, hg, hat⟩ := hk.at_ (by simp)
  obtain ⟨k1, num1, nm1, A1, c1, ks1, h1, hc1, hk1⟩ := hat 0 t1 rfl
  obtain ⟨k2, num2, nm2, A2, c2, ks2, h2, hc2, hk2⟩ := hat 1 t2 rfl
  exact ⟨g, o, c, k1, num1, nm1, A1, c1, ks1, k2, num2, nm2, A2, c2, ks2, rfl, hg, hz, h1, h2, by simpa using hc1, by simpa using hc2, hk1, hk2⟩

theorem aw_call1 (w : World) (hg : SignsIs w) (hO : OpsIs w) : Calls Tryd.prog 28 #[.string ⟨#[49, 32, 45, 32, 50, 32, 45, 32, 51, 32, 42, 32, 120]⟩] w fun r w' =>
    ∃ g o c, r = .returned (.tuple #[.agg #[.int .u8 7, .int .i64 0, .string ⟨#[]⟩, .slice (some ⟨g, o, none⟩) 2 c], .int .i64 0, .int .i64 0]) ∧ g < w'.heap.size ∧ w'.cell? ⟨g, o, none⟩ = some (.int .u8 7) ∧ w'.cell? ⟨g, o + 4, none⟩ = some (.int .u8 8) ∧ Below w.heap.size w w' := by
  refine (expr_at awS w (by unfold awS maxLen; decide) hg hO aw_expr).mono ?_
  rintro r w1 ⟨v, rfl, hN, hb1⟩
  obtain ⟨g, o, c, k1, num1, nm1, A1, c1, ks1, k2, num2, nm2, A2, c2, ks2, rfl, hgl, hz, h1, h2, ⟨x0, _, _, _⟩, ⟨y0, _, _, _⟩, _, _⟩ := NodeV.two (k := 7) (num := 0) (nm := []) hN
  injection h1 with h1 _ _ _
  injection h2 with h2 _ _ _
  subst h1 h2
  exact ⟨g, o, c, rfl, hgl, x0, y0, hb1⟩
theorem aw_call2 (w : World) (hg : SignsIs w) (hO : OpsIs w) : Calls Tryd.prog 32 #[.string ⟨#[116, 97, 115, 107, 32, 116, 32, 112, 101, 114, 105, 111, 100, 32, 53, 32, 123, 32, 120, 32, 43, 61, 32, 49, 59, 32, 125]⟩] w fun r w' =>
    ∃ A n c A' n' c', r = .returned (.tuple #[.agg #[.slice A n c, .slice A' n' c'], .int .i64 20, .int .i64 3]) ∧ Below w.heap.size w w' := by
  obtain ⟨q, hq1, hq2⟩ := Option.map_eq_some_iff.1 aw_prog
  have hq3 : q.1.off = 20 := congrArg Prod.fst hq2
  have hq4 : q.1.err = 3 := congrArg Prod.snd hq2
  have hout : (PP.out zeroP q).2.1 = 20 ∧ (PP.out zeroP q).2.2 = 3 := by unfold PP.out; rw [if_neg (by omega)]; exact ⟨hq3, hq4⟩
  refine (program_at awT w (by unfold awT maxLen; decide) hg hO hq1).mono ?_
  rintro r w2 ⟨va, vt, ba, els, bt, bx, kx, rfl, hv, hb3⟩
  obtain ⟨Av, cv, rfl⟩ := hv.ra.form
  obtain ⟨At, ct, rfl⟩ := hv.rt.form
  rw [hout.1, hout.2]
  exact ⟨_, _, _, _, _, _, rfl, hb3⟩
section
set_option maxHeartbeats 1000000
set_option maxRecDepth 100000
theorem awake13_any (w : World) (hg : SignsIs w) (hO : OpsIs w) : Calls Tryd.prog 26 #[] w fun e w' => e = .returned (.bool true) ∧ Below w.heap.size w w' := by
  have HG := Lib.hid hg
  have HO := Lib.hid hO
  have HE := Lib.hid (aw_call1 w hg hO)
  clear hg hO
  go_enter Tryd.func26, Tryd.ntmps26
  go_wp2_with fail
  refine HE.out.mono ?_
  rintro e w1 ⟨g, o, c, rfl, hgl, x0, y0, hb1⟩
  have hb2 : Below w.heap.size w (w1.alloc (.cells #[.int .u8 7, .int .i64 0, .string ⟨#[]⟩, .slice (some ⟨g, o, none⟩) 2 c] 24)) := hb1.alloc hb1.size _
  have HP := Lib.hid (aw_call2 _ (HG.out.below hb2 HG.out.pos) (HO.out.below hb2))
  have HB2 := Lib.hid hb2
  clear hb2 HE hb1
  go_wp2_with fail
  refine HP.out.mono ?_
  rintro e w2 ⟨Av, nv, cv, At, nt, ct, rfl, hb3⟩
  have hgw : g < (w1.alloc (.cells #[.int .u8 7, .int .i64 0, .string ⟨#[]⟩, .slice (some ⟨g, o, none⟩) 2 c] 24)).heap.size := by simp; omega
  have z0 : w2.cell? ⟨g, o, none⟩ = some (.int .u8 7) := (hb3.cell (p := ⟨g, o, none⟩) hgw).trans ((World.cell?_alloc_past _ _ _ hgl).trans x0)
  have z1 : w2.cell? ⟨g, o + 4, none⟩ = some (.int .u8 8) := (hb3.cell (p := ⟨g, o + 4, none⟩) hgw).trans ((World.cell?_alloc_past _ _ _ hgl).trans y0)
  have z2 : Blk w2 w1.heap.size 24 #[.int .u8 7, .int .i64 0, .string ⟨#[]⟩, .slice (some ⟨g, o, none⟩) 2 c] := (hb3.block _ (by simp)).trans (Blk.new _ _ _)
  obtain ⟨⟨n0, n1, n2, n3⟩, _, _, _, _⟩ := z2.four
  have hs2 := z2.lt
  have hg2 : g < w2.heap.size := by omega
  have hB4 := Lib.hid (HB2.out.trans (hb3.mono HB2.out.size))
  clear hb3 x0 y0 z2 HP hgw
  go_wp2_with fail
  go_ret
  exact ⟨rfl, hB4.out.alloc hB4.out.size _⟩
end
end Go.Proofs.YtaaaicpjlaeiiaaDoor
