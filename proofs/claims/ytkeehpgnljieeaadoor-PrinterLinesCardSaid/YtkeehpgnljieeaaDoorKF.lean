/- Merged from ParW, ParX, Awake13 (wip/pack.py). -/
import Derived.Test.YtkeehpgnljieeaaDoorKE
import Derived.BigRegion
/- The contracts of the parser's finish and Expr. -/
namespace Go.Proofs.YtkeehpgnljieeaaDoor
open Go.RowKit Go.Maps
open PP (Tree ArrD TaskD)

theorem node3_result {fn : Func} {p q r : Tmp} (h : fn.results = #[.cell p 24, .tmp q, .tmp r]) {tmps : Array Value} {w : World} {g : Nat} {a0 a1 a2 a3 : Value} (hp : tmps.getD p undef = .pointer (some ⟨g, 0, none⟩)) (hb : Blk w g 24 #[a0, a1, a2, a3]) :
    (results fn tmps).run Tryd.prog w = .ok (.tuple #[.agg #[a0, a1, a2, a3], tmps.getD q undef, tmps.getD r undef]) w := by
  have hp' : tmps[p]?.getD undef = .pointer (some ⟨g, 0, none⟩) := by simpa using hp
  simp [results, h, hp', asAddr, run_loadVar_row w g 24 24 #[a0, a1, a2, a3] (0, 0) _ hb Tryd.underlying24 rfl (by kernel_rfl)]
namespace PP
def out {α : Type} (z : α) (r : St × α) : α × Nat × Nat := if r.1.err = 0 then (r.2, 0, 0) else (z, r.1.off, r.1.err)
def zeroT : Tree := .node 0 0 [] []
end PP
section
set_option maxHeartbeats 2000000
set_option maxRecDepth 100000
variable {w0 : World} {Z : Nat → Prop} {b : Nat} {X : Loc} {E : PP.Env} {σ : PP.St} {bl : List OwnB} {ks : List (Option Addr × List Tree)} {W : World}
end
end Go.Proofs.YtkeehpgnljieeaaDoor
/- The contracts of parser.Expr and parser.Program. -/
namespace Go.Proofs.YtkeehpgnljieeaaDoor
open Go.RowKit Go.Maps
open PP (Tree ArrD TaskD ProgD)

def envOf (s : ByteArray) : PP.Env := ⟨(PL.lex s.data.toList).1.filter PL.solidT, s.size⟩
def sigOf (s : ByteArray) : PP.St := ⟨0, (PL.lex s.data.toList).2.1, (PL.lex s.data.toList).2.2⟩
def ExprEnd (s : ByteArray) (w : World) (r : Ending) (w' : World) : Prop :=
  ∃ v n q, PP.exprP (envOf s) n (sigOf s) = some q ∧ r = .returned (.tuple #[v, .int .i64 ((PP.out PP.zeroT q).2.1 : Int), .int .i64 ((PP.out PP.zeroT q).2.2 : Int)]) ∧ NodeV w' (w.heap.size ≤ ·) v (PP.out PP.zeroT q).1 ∧ Below w.heap.size w w'
theorem below_fr {B b : Nat} {a w w' : World} (h : Below B a w) (hf : Fr b w w') (hb : B ≤ b) (hB : B ≤ w.heap.size) : Below B a w' := h.grown hf hB (fun k hk => by injection hk with hk; omega)
section
set_option maxHeartbeats 2000000
set_option maxRecDepth 100000
end

def zeroP : ProgD := ⟨[], []⟩
theorem RowV.mono {base base' : Nat} {e : TypeId} {size : Nat} {v : Value} {n : Nat} {xs : List Value} {bs : List OwnB} (h : RowV base e size v n xs bs) (hb : base' ≤ base) : RowV base' e size v n xs bs := by
  refine ⟨h.1, ?_⟩
  rcases h.2 with h1 | ⟨g, cap, cur, h1, h2, h3⟩
  · exact .inl h1
  · exact .inr ⟨g, cap, cur, h1, by omega, h3⟩
theorem perm8 {α : Type} (v : List α) (x y z : α) : (v ++ [x, y, z]).Perm (z :: (v ++ [x, y])) := by
  classical
  exact List.perm_iff_count.2 (fun u => by simp only [List.count_append, List.count_cons]; omega)
theorem perm9 {α : Type} (t x l : List α) (c d e : α) : (t ++ (x ++ (c :: d :: e :: l))).Perm (e :: c :: d :: (t ++ (x ++ l))) := by
  classical
  exact List.perm_iff_count.2 (fun u => by simp only [List.count_append, List.count_cons]; omega)
section
set_option maxHeartbeats 4000000
set_option maxRecDepth 100000
end
end Go.Proofs.YtkeehpgnljieeaaDoor
/- The examples of the parser's chapter. -/
namespace Go.Proofs.YtkeehpgnljieeaaDoor
open Go.RowKit Go.Maps
open PP (Tree ArrD TaskD ProgD)

theorem exprP_det {E : PP.Env} {n m : Nat} {σ : PP.St} {q q' : PP.St × Tree} (h : PP.exprP E n σ = some q) (h' : PP.exprP E m σ = some q') : q = q' :=
  Option.some.inj ((PP.exprP_le E (Nat.le_max_left n m) h).symm.trans (PP.exprP_le E (Nat.le_max_right n m) h'))
theorem programP_det {E : PP.Env} {n m : Nat} {σ : PP.St} {q q' : PP.St × ProgD} (h : PP.programP E n σ = some q) (h' : PP.programP E m σ = some q') : q = q' :=
  Option.some.inj ((PP.programP_le E (Nat.le_max_left n m) h).symm.trans (PP.programP_le E (Nat.le_max_right n m) h'))
/-- The children of a node, one by one. -/
theorem KidsC.at_ {w : World} {Z : Nat → Prop} {A : Option Addr} {kids : List Tree} (h : KidsC w Z A kids) (hn : kids ≠ []) : ∃ g o, A = some ⟨g, o, none⟩ ∧ Z g ∧ g < w.heap.size ∧ ∀ i t, kids[i]? = some t → ∃ k num nm A' c ks, t = .node k num nm ks ∧
    (w.cell? ⟨g, o + i * 4, none⟩ = some (.int .u8 ((k : Nat) : Int)) ∧ w.cell? ⟨g, o + i * 4 + 1, none⟩ = some (.int .i64 num) ∧ w.cell? ⟨g, o + i * 4 + 2, none⟩ = some (.string ⟨(nm : List UInt8).toArray⟩) ∧ w.cell? ⟨g, o + i * 4 + 3, none⟩ = some (.slice A' (ks : List Tree).length c)) ∧ KidsC w Z A' ks := by
  cases h with
  | mk _ _ g o K N S AA C KS hA hk hc hh =>
    obtain ⟨h1, h2, h3⟩ := hA hn
    refine ⟨g, o, h1, h2, h3, fun i t hi => ?_⟩
    have hlt : i < kids.length := (List.getElem?_eq_some_iff.1 hi).1
    have e := (hk i hlt).symm.trans hi
    injection e with e
    exact ⟨K i, N i, S i, AA i, C i, KS i, e.symm, hc i hlt, hh i hlt⟩
def awS : ByteArray := ⟨#[49, 32, 45, 32, 50, 32, 45, 32, 51, 32, 42, 32, 120]⟩
def awT : ByteArray := ⟨#[116, 97, 115, 107, 32, 116, 32, 112, 101, 114, 105, 111, 100, 32, 53, 32, 123, 32, 120, 32, 43, 61, 32, 49, 59, 32, 125]⟩
theorem aw_expr : PP.exprP (envOf awS) 40 (sigOf awS) = some (⟨7, 0, 0⟩, .node 7 0 [] [.node 7 0 [] [.node 1 1 [] [], .node 1 2 [] []], .node 8 0 [] [.node 1 3 [] [], .node 2 0 [120] []]]) := by kernel_rfl
theorem aw_prog : (PP.programP (envOf awT) 40 (sigOf awT)).map (fun q => (q.1.off, q.1.err)) = some (20, 3) := by kernel_rfl
theorem NodeV.two {w : World} {Z : Nat → Prop} {v : Value} {k : Nat} {num : Int} {nm : List UInt8} {t1 t2 : Tree} (h : NodeV w Z v (.node k num nm [t1, t2])) : ∃ g o c k1 num1 nm1 A1 c1 ks1 k2 num2 nm2 A2 c2 ks2,
    v = .agg #[.int .u8 (k : Int), .int .i64 num, .string ⟨nm.toArray⟩, .slice (some ⟨g, o, none⟩) 2 c] ∧ g < w.heap.size ∧ Z g ∧ t1 = .node k1 num1 nm1 ks1 ∧ t2 = .node k2 num2 nm2 ks2 ∧
    (w.cell? ⟨g, o, none⟩ = some (.int .u8 ((k1 : Nat) : Int)) ∧ w.cell? ⟨g, o + 1, none⟩ = some (.int .i64 num1) ∧ w.cell? ⟨g, o + 2, none⟩ = some (.string ⟨(nm1 : List UInt8).toArray⟩) ∧ w.cell? ⟨g, o + 3, none⟩ = some (.slice A1 (ks1 : List Tree).length c1)) ∧
    (w.cell? ⟨g, o + 4, none⟩ = some (.int .u8 ((k2 : Nat) : Int)) ∧ w.cell? ⟨g, o + 4 + 1, none⟩ = some (.int .i64 num2) ∧ w.cell? ⟨g, o + 4 + 2, none⟩ = some (.string ⟨(nm2 : List UInt8).toArray⟩) ∧ w.cell? ⟨g, o + 4 + 3, none⟩ = some (.slice A2 (ks2 : List Tree).length c2)) ∧ KidsC w Z A1 ks1 ∧ KidsC w Z A2 ks2 := by
  obtain ⟨k', num', nm', A, c, kids, rfl, ht, hk⟩ := h
  injection ht with e1 e2 e3 e4
  subst e1 e2 e3 e4
  obtain ⟨g, o, rfl, hz, hg, hat⟩ := hk.at_ (by simp)
  obtain ⟨k1, num1, nm1, A1, c1, ks1, h1, hc1, hk1⟩ := hat 0 t1 rfl
  obtain ⟨k2, num2, nm2, A2, c2, ks2, h2, hc2, hk2⟩ := hat 1 t2 rfl
  exact ⟨g, o, c, k1, num1, nm1, A1, c1, ks1, k2, num2, nm2, A2, c2, ks2, rfl, hg, hz, h1, h2, by simpa using hc1, by simpa using hc2, hk1, hk2⟩

section
set_option maxHeartbeats 1000000
set_option maxRecDepth 100000
end
end Go.Proofs.YtkeehpgnljieeaaDoor
