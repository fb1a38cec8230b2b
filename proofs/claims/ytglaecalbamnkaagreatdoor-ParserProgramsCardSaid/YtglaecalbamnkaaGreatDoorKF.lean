/- Merged from ParW, ParX, Awake13 (wip/pack.py). -/
import Derived.Test.YtglaecalbamnkaaGreatDoorKE
import Derived.BigRegion
/- The contracts of the parser's finish and Expr. -/
namespace Go.Proofs.YtglaecalbamnkaaGreatDoor
open Go.RowKit Go.Maps
open PP (Tree ArrD TaskD)

theorem node3_result {fn : Func} {p q r : Tmp} (h : fn.results = #[.cell p 36, .tmp q, .tmp r]) {tmps : Array Value} {w : World} {g : Nat} {a0 a1 a2 a3 : Value} (hp : tmps.getD p undef = .pointer (some ⟨g, 0, none⟩)) (hb : Blk w g 36 #[a0, a1, a2, a3]) :
    (results fn tmps).run Tryz.prog w = .ok (.tuple #[.agg #[a0, a1, a2, a3], tmps.getD q undef, tmps.getD r undef]) w := by
  have hp' : tmps[p]?.getD undef = .pointer (some ⟨g, 0, none⟩) := by simpa using hp
  simp [results, h, hp', asAddr, run_loadVar_row w g 36 36 #[a0, a1, a2, a3] (0, 0) _ hb Tryz.underlying36 rfl (by kernel_rfl)]
namespace PP
def out {α : Type} (z : α) (r : St × α) : α × Nat × Nat := if r.1.err = 0 then (r.2, 0, 0) else (z, r.1.off, r.1.err)
def zeroT : Tree := .node 0 0 [] []
end PP
/-- The end of a call that hands back a tree, or an offset and an error. -/
def FinEnd (w0 : World) (Z : Nat → Prop) (b : Nat) (X : Loc) (E : PP.Env) (σ : PP.St) (t : Tree) (bl : List OwnB) (ks : List (Option Addr × List Tree)) (r : Ending) (w' : World) : Prop :=
  ∃ k num nm A c kids, r = .returned (.tuple #[.agg #[.int .u8 ((k : Nat) : Int), .int .i64 num, .string ⟨(nm : List UInt8).toArray⟩, .slice A (kids : List Tree).length c], .int .i64 ((PP.out PP.zeroT (σ, t)).2.1 : Int), .int .i64 ((PP.out PP.zeroT (σ, t)).2.2 : Int)]) ∧
    (PP.out PP.zeroT (σ, t)).1 = .node k num nm kids ∧ Inv w0 Z b X E σ bl ((A, kids) :: ks) w'
section
set_option maxHeartbeats 2000000
set_option maxRecDepth 100000
variable {w0 : World} {Z : Nat → Prop} {b : Nat} {X : Loc} {E : PP.Env} {σ : PP.St} {bl : List OwnB} {ks : List (Option Addr × List Tree)} {W : World}
theorem finish_inv (h : Inv w0 Z b X E σ bl ks W) (k : Nat) (num : Int) (nm : List UInt8) (A : Option Addr) (c : Nat) (kids : List Tree) (hm : (A, kids) ∈ ks) (hs : σ.err = 0 → PP.sizeL kids ≤ 1000000) :
    Calls Tryz.prog 27 #[.pointer (some ⟨b, 0, none⟩), .agg #[.int .u8 (k : Int), .int .i64 num, .string ⟨nm.toArray⟩, .slice A kids.length c]] W (FinEnd w0 Z b X E (PP.limitP (.node k num nm kids) 0 σ) (.node k num nm kids) bl ks) := by
  have I1 := (h.alloc #[.int .u8 (k : Int), .int .i64 num, .string ⟨nm.toArray⟩, .slice A kids.length c] 36 rfl).alloc #[.int .u8 0, .int .i64 0, .string ⟨#[]⟩, .slice none 0 0] 36 (n := W.heap.size + 1) (by simp)
  have HL := Lib.hid (limit_inv I1 0 k num nm A c kids hm hs)
  have hm' := Lib.hid hm
  generalize PP.limitP (.node k num nm kids) 0 σ = σ' at *
  clear I1 h hm hs
  go_enter Tryz.func27, Tryz.ntmps27
  go_wp2_with fail
  refine HL.out.mono ?_
  rintro e w2 ⟨rfl, I2⟩
  have hb := I2.ne (x := (W.heap.size + 1, 36, #[.int .u8 0, .int .i64 0, .string ⟨#[]⟩, .slice none 0 0])) (by simp)
  obtain ⟨hb1, hb2⟩ := hb
  have c4 := I2.ps.cells.2.2.2.2.1
  have c5 := I2.ps.cells.2.2.2.2.2
  obtain ⟨⟨n0, n1, n2, n3⟩, _, _, _, _⟩ := I2.b1.four
  obtain ⟨⟨r0, r1, r2, r3⟩, q0, q1, q2, q3⟩ := I2.b0.four
  have HQ := Lib.hid (fun v0 v1 v2 v3 => I2.st0 v0 v1 v2 v3)
  have HQd := Lib.hid (fun v0 v1 v2 v3 => I2.drew.st0 v0 v1 v2 v3)
  clear I2 HL
  by_cases he : σ'.err = 0
  · have e1 : ((σ'.err : Int) != 0) = false := by simp [he]
    have HE := Lib.hid he
    clear he
    go_wp2_with fail
    refine bodyPost_ret (node3_result rfl rfl (HQ.out _ _ _ _).b0) rfl ?_
    refine ⟨k, num, nm, A, c, kids, ?_, ?_, ((HQ.out _ _ _ _).drop.drop).addKs (((HQ.out _ _ _ _).drop.drop).ks _ hm'.out)⟩
    · unfold PP.out; rw [if_pos HE.out]; rfl
    · unfold PP.out; rw [if_pos HE.out]
  · have e1 : ((σ'.err : Int) != 0) = true := by simpa using he
    have HE := Lib.hid he
    clear he
    go_wp2_with fail
    go_region
    all_goals
      go_wp2_with fail
      refine bodyPost_ret (node3_result rfl rfl (HQd.out _ _ _ _).b0) rfl ?_
      refine ⟨0, 0, [], none, 0, [], ?_, ?_, ((HQd.out _ _ _ _).drop.drop).addKs (KidsC.nil _ _ _)⟩
      · unfold PP.out; rw [if_neg HE.out]; rfl
      · unfold PP.out; rw [if_neg HE.out]; rfl
end
end Go.Proofs.YtglaecalbamnkaaGreatDoor
/- The contracts of parser.Expr and parser.Program. -/
namespace Go.Proofs.YtglaecalbamnkaaGreatDoor
open Go.RowKit Go.Maps
open PP (Tree ArrD TaskD ProgD)

def envOf (s : ByteArray) : PP.Env := ⟨(PL.lex s.data.toList).1.filter PL.solidT, s.size⟩
def sigOf (s : ByteArray) : PP.St := ⟨0, (PL.lex s.data.toList).2.1, (PL.lex s.data.toList).2.2⟩
def ExprEnd (s : ByteArray) (w : World) (r : Ending) (w' : World) : Prop :=
  ∃ v n q, PP.exprP (envOf s) n (sigOf s) = some q ∧ r = .returned (.tuple #[v, .int .i64 ((PP.out PP.zeroT q).2.1 : Int), .int .i64 ((PP.out PP.zeroT q).2.2 : Int)]) ∧ NodeV w' (w.heap.size ≤ ·) v (PP.out PP.zeroT q).1 ∧ Below w.heap.size w w'
theorem below_fr {B b : Nat} {a w w' : World} (h : Below B a w) (hf : Fr b w w') (hb : B ≤ b) (hB : B ≤ w.heap.size) : Below B a w' := h.grown hf hB (fun k hk => by injection hk with hk; omega)
section
set_option maxHeartbeats 2000000
set_option maxRecDepth 100000
theorem expr_any (s : ByteArray) (w : World) (hs : s.size ≤ maxLen) (hg : SignsIs w) (hO : OpsIs w) : Calls Tryz.prog 8 #[.string s] w (ExprEnd s w) := by
  have hb0 : Below w.heap.size w (w.alloc (.cells #[.int .u8 0, .int .i64 0, .string ⟨#[]⟩, .slice none 0 0] 36)) := (Below.refl _ _).alloc (Nat.le_refl _) _
  have hst := start_any s (w.alloc (.cells #[.int .u8 0, .int .i64 0, .string ⟨#[]⟩, .slice none 0 0] 36)) hs (hg.below hb0 hg.pos) (hO.below hb0)
  have hR0 := Blk.new w 36 #[.int .u8 0, .int .i64 0, .string ⟨#[]⟩, .slice none 0 0]
  have HST := Lib.hid hst
  have HB0 := Lib.hid hb0
  have HR0 := Lib.hid hR0
  clear hst hb0 hR0 hg hO
  go_enter Tryz.func8, Tryz.ntmps8
  go_wp2_with fail
  refine HST.out.mono ?_
  rintro e w1 ⟨b, X, rfl, hgx, hp, hb1, hbb⟩
  have hbb' : w.heap.size + 1 ≤ b := by have := hbb; simp at this; exact this
  have hR1 : Blk w1 w.heap.size 36 #[.int .u8 0, .int .i64 0, .string ⟨#[]⟩, .slice none 0 0] := (hb1.block _ (by simp)).trans HR0.out
  have hB1 : Below w.heap.size w w1 := HB0.out.trans (hb1.mono (by simp))
  have hp' : PS w1 b X (envOf s) (sigOf s) := hp
  have I0 := Inv.start (Z := NoZ) hp' hgx (fun h => h)
  have HE := Lib.hid (tree_inv I0 (expression_any _ w1 I0.gx I0.ps))
  have HR1 := Lib.hid hR1
  have HB1 := Lib.hid hB1
  clear hgx hp hp' hb1 hbb hR1 hB1 I0 HST HB0 HR0
  go_wp2_with fail
  refine HE.out.mono ?_
  rintro e w2 ⟨k2, num2, nm2, A2, c2, kids2, σ2, rfl, I2, ⟨m2, hr2⟩, hn2⟩
  have I3 := I2.alloc #[.int .u8 (k2 : Int), .int .i64 num2, .string ⟨nm2.toArray⟩, .slice A2 kids2.length c2] 36 rfl
  have hsz : σ2.err = 0 → PP.sizeL kids2 ≤ 1000000 := by
    intro he
    have h1 := (PP.expr_size (envOf s) m2).2.2.2.1 _ _ _ hr2 he
    have h2 := I2.ps.next
    have h3 := I2.ps.len
    simp only [PP.Tree.size] at h1
    omega
  have fin : ∀ (σ' : PP.St) (w5 : World) (r : Value), σ' = (if PP.more (envOf s) σ2 then PP.reject (envOf s) σ2 else σ2) → ∀ {k num nm A c kids} {bl : List OwnB} {ks : List (Option Addr × List Tree)}, (PP.out PP.zeroT (PP.limitP (.node k2 num2 nm2 kids2) 0 σ', .node k2 num2 nm2 kids2)).1 = .node k num nm kids → Inv w1 NoZ b X (envOf s) (PP.limitP (.node k2 num2 nm2 kids2) 0 σ') bl ((A, kids) :: ks) w5 →
      r = .tuple #[.agg #[.int .u8 ((k : Nat) : Int), .int .i64 num, .string ⟨(nm : List UInt8).toArray⟩, .slice A (kids : List Tree).length c], .int .i64 ((PP.out PP.zeroT (PP.limitP (.node k2 num2 nm2 kids2) 0 σ', .node k2 num2 nm2 kids2)).2.1 : Int), .int .i64 ((PP.out PP.zeroT (PP.limitP (.node k2 num2 nm2 kids2) 0 σ', .node k2 num2 nm2 kids2)).2.2 : Int)] →
      (∀ v0 v1 v2 v3, ExprEnd s w (.returned r) ((((w5.setCell ⟨w.heap.size, 0, none⟩ v0).setCell ⟨w.heap.size, 1, none⟩ v1).setCell ⟨w.heap.size, 2, none⟩ v2).setCell ⟨w.heap.size, 3, none⟩ v3)) := by
    intro σ' w5 r hσ k num nm A c kids bl ks hout I5 hr v0 v1 v2 v3
    refine ⟨_, m2, (PP.limitP (.node k2 num2 nm2 kids2) 0 σ', .node k2 num2 nm2 kids2), ?_, by rw [hr], ?_, ?_⟩
    · unfold PP.exprP; rw [hr2]; rw [hσ]; rfl
    · rw [hout]
      refine ⟨k, num, nm, A, c, kids, rfl, rfl, ?_⟩
      have h1 := (I5.ks (A, kids) (by simp)).weak (Z' := (w1.heap.size ≤ ·)) (fun g hg _ => hg.1.resolve_left (fun h => h))
      have h2 := HB1.out.size
      have h3 := HR1.out.lt
      exact (h1.keep ((Keep.refl _ _).st4 (g := w.heap.size) (by intro h; have : w1.heap.size ≤ w.heap.size := h; omega) v0 v1 v2 v3)).weak (fun g hg _ => by have : w1.heap.size ≤ g := hg; show w.heap.size ≤ g; omega)
    · have h1 := below_fr HB1.out I5.fr (by omega) HB1.out.size
      exact (((h1.setCell (p := ⟨w.heap.size, 0, none⟩) (Nat.le_refl _) v0).setCell (p := ⟨w.heap.size, 1, none⟩) (Nat.le_refl _) v1).setCell (p := ⟨w.heap.size, 2, none⟩) (Nat.le_refl _) v2).setCell (p := ⟨w.heap.size, 3, none⟩) (Nat.le_refl _) v3
  have FIN := Lib.hid (fun σ' w5 r hσ => @fin σ' w5 r hσ)
  have HSZ := Lib.hid hsz
  have HI3 := Lib.hid I3
  clear I2 hr2 hn2 I3 HE fin hsz
  cases hm : PP.more (envOf s) σ2 with
  | false =>
    have HM := Lib.hid hm
    clear hm
    go_wp2_with fail
    refine (more_inv HM.out HI3.out).mono ?_
    rintro e w3 ⟨rfl, I4⟩
    obtain ⟨⟨n0, n1, n2, n3⟩, _, _, _, _⟩ := I4.b0.four
    have HF := Lib.hid (finish_inv I4 k2 num2 nm2 A2 c2 kids2 (by simp) HSZ.out)
    clear I4
    go_wp2_with fail
    refine HF.out.mono ?_
    rintro e w5 ⟨k, num, nm, A, c, kids, rfl, hout, I5⟩
    have hR5 := HR1.out.fr I5.fr (by omega)
    obtain ⟨⟨r0, r1, r2, r3⟩, q0, q1, q2, q3⟩ := hR5.four
    have HR5 := Lib.hid (fun v0 v1 v2 v3 => hR5.st4 v0 v1 v2 v3)
    have HFIN := Lib.hid (FIN.out σ2 w5 _ (by rw [HM.out]; rfl) (c := c) hout I5 rfl)
    clear I5 hR5 hout HF
    go_wp2_with fail
    refine bodyPost_ret (node3_result rfl rfl (HR5.out _ _ _ _)) rfl ?_
    exact HFIN.out _ _ _ _
  | true =>
    have HM := Lib.hid hm
    clear hm
    go_wp2_with fail
    refine (more_inv HM.out HI3.out).mono ?_
    rintro e w3 ⟨rfl, I4⟩
    have HI4 := Lib.hid I4
    clear I4
    go_wp2_with fail
    refine (reject_inv HI4.out).mono ?_
    rintro e w4 ⟨rfl, I4⟩
    obtain ⟨⟨n0, n1, n2, n3⟩, _, _, _, _⟩ := I4.b0.four
    have HF := Lib.hid (finish_inv I4 k2 num2 nm2 A2 c2 kids2 (by simp) (fun he => absurd he (PP.reject_err _ _)))
    clear I4 HI4
    go_wp2_with fail
    refine HF.out.mono ?_
    rintro e w5 ⟨k, num, nm, A, c, kids, rfl, hout, I5⟩
    have hR5 := HR1.out.fr I5.fr (by omega)
    obtain ⟨⟨r0, r1, r2, r3⟩, q0, q1, q2, q3⟩ := hR5.four
    have HR5 := Lib.hid (fun v0 v1 v2 v3 => hR5.st4 v0 v1 v2 v3)
    have HFIN := Lib.hid (FIN.out (PP.reject (envOf s) σ2) w5 _ (by rw [HM.out]; rfl) (c := c) hout I5 rfl)
    clear I5 hR5 hout HF
    go_wp2_with fail
    refine bodyPost_ret (node3_result rfl rfl (HR5.out _ _ _ _)) rfl ?_
    exact HFIN.out _ _ _ _
end

theorem prog3_result {fn : Func} {p q r : Tmp} (h : fn.results = #[.cell p 26, .tmp q, .tmp r]) {tmps : Array Value} {w : World} {g : Nat} {a0 a1 : Value} (hp : tmps.getD p undef = .pointer (some ⟨g, 0, none⟩)) (hb : Blk w g 26 #[a0, a1]) :
    (results fn tmps).run Tryz.prog w = .ok (.tuple #[.agg #[a0, a1], tmps.getD q undef, tmps.getD r undef]) w := by
  have hp' : tmps[p]?.getD undef = .pointer (some ⟨g, 0, none⟩) := by simpa using hp
  simp [results, h, hp', asAddr, run_loadVar_row w g 26 26 #[a0, a1] (0, 0) _ hb Tryz.underlying26 rfl (by kernel_rfl)]
/-- A program in memory. -/
structure ProgV (w : World) (base : Nat) (va vt : Value) (p : ProgD) (ba : List OwnB) (els : List TaskEl) (bt bx : List OwnB) (kx : List (Option Addr × List Tree)) : Prop where
  ra : RowV base 43 2 va p.shared.length (arrCells p.shared) ba
  rt : RowV base 49 8 vt els.length (tasksCells els) bt
  td : p.tasks = els.map TaskEl.data
  ok : ∀ x ∈ els, TaskEl.Ok x base bx kx
  bl : ∀ y ∈ ba ++ (bt ++ bx), Blk w y.1 y.2.1 y.2.2 ∧ base ≤ y.1
  ks : ∀ y ∈ kx, KidsC w (base ≤ ·) y.1 y.2
  la : p.shared.length ≤ 65536
  lt : els.length ≤ 65536
def zeroP : ProgD := ⟨[], []⟩
def ProgEnd (s : ByteArray) (w : World) (r : Ending) (w' : World) : Prop :=
  ∃ va vt n q ba els bt bx kx, PP.programP (envOf s) n (sigOf s) = some q ∧ r = .returned (.tuple #[.agg #[va, vt], .int .i64 ((PP.out zeroP q).2.1 : Int), .int .i64 ((PP.out zeroP q).2.2 : Int)]) ∧ ProgV w' w.heap.size va vt (PP.out zeroP q).1 ba els bt bx kx ∧ Below w.heap.size w w'
theorem RowV.mono {base base' : Nat} {e : TypeId} {size : Nat} {v : Value} {n : Nat} {xs : List Value} {bs : List OwnB} (h : RowV base e size v n xs bs) (hb : base' ≤ base) : RowV base' e size v n xs bs := by
  refine ⟨h.1, ?_⟩
  rcases h.2 with h1 | ⟨g, cap, cur, h1, h2, h3⟩
  · exact .inl h1
  · exact .inr ⟨g, cap, cur, h1, by omega, h3⟩
theorem TaskEl.Ok.mono {x : TaskEl} {base base' : Nat} {bx : List OwnB} {kx : List (Option Addr × List Tree)} (h : TaskEl.Ok x base bx kx) (hb : base' ≤ base) : TaskEl.Ok x base' bx kx := ⟨h.rv.mono hb, h.ra.mono hb, h.lv, h.la, h.mv, h.ma, h.mx⟩
theorem perm8 {α : Type} (v : List α) (x y z : α) : (v ++ [x, y, z]).Perm (z :: (v ++ [x, y])) := by
  classical
  exact List.perm_iff_count.2 (fun u => by simp only [List.count_append, List.count_cons]; omega)
theorem perm9 {α : Type} (t x l : List α) (c d e : α) : (t ++ (x ++ (c :: d :: e :: l))).Perm (e :: c :: d :: (t ++ (x ++ l))) := by
  classical
  exact List.perm_iff_count.2 (fun u => by simp only [List.count_append, List.count_cons]; omega)
section
set_option maxHeartbeats 4000000
set_option maxRecDepth 100000
theorem program_any (s : ByteArray) (w : World) (hs : s.size ≤ maxLen) (hg : SignsIs w) (hO : OpsIs w) : Calls Tryz.prog 5 #[.string s] w (ProgEnd s w) := by
  have hmf : ∀ (fn : Fn) (first cap : Array Value) (w : World), (Instr.makeFunc fn first cap).run Tryz.prog w = .ok (.func fn first cap) w := fun _ _ _ _ => rfl
  have hb0 : Below w.heap.size w (w.alloc (.cells #[.slice none 0 0, .slice none 0 0] 26)) := (Below.refl _ _).alloc (Nat.le_refl _) _
  have hst := start_any s (w.alloc (.cells #[.slice none 0 0, .slice none 0 0] 26)) hs (hg.below hb0 hg.pos) (hO.below hb0)
  have hR0 := Blk.new w 26 #[.slice none 0 0, .slice none 0 0]
  have HST := Lib.hid hst
  have HB0 := Lib.hid hb0
  have HR0 := Lib.hid hR0
  clear hst hb0 hR0 hg hO
  go_enter Tryz.func5, Tryz.ntmps5
  go_wp2_with fail
  refine HST.out.mono ?_
  rintro e w1 ⟨b, X, rfl, hgx, hp, hb1, hbb⟩
  have hbb' : w.heap.size + 1 ≤ b := by have := hbb; simp at this; exact this
  have hR1 : Blk w1 w.heap.size 26 #[.slice none 0 0, .slice none 0 0] := (hb1.block _ (by simp)).trans HR0.out
  have hB1 : Below w.heap.size w w1 := HB0.out.trans (hb1.mono (by simp))
  have hp' : PS w1 b X (envOf s) (sigOf s) := hp
  have HI1 := Lib.hid ((Inv.start (Z := NoZ) hp' hgx (fun h => h)).alloc #[.slice none 0 0, .slice none 0 0] 26 (n := w1.heap.size) rfl)
  have hblt := hp.lt
  have HR1 := Lib.hid hR1
  have HB1 := Lib.hid hB1
  clear hgx hp hp' hb1 hbb hR1 hB1 HST HB0 HR0
  go_wp2_with fail
  refine (begins_inv ⟨#[115, 104, 97, 114, 101, 100]⟩ HI1.out (n := w1.heap.size + 1) (by simp)).mono ?_
  rintro e w2 ⟨rfl, I2⟩
  have HLA := Lib.hid (listA_inv (lim := 4) (B1 := w1.heap.size + 1) (B2 := w1.heap.size + 1 + 1) ⟨#[115, 104, 97, 114, 101, 100]⟩ I2 (by simp) (by simp))
  clear I2 HI1
  go_wp2_with fail
  refine HLA.out.mono ?_
  rintro e w3 ⟨σ3, ar, va, ba, rfl, hra, I3, hca, ⟨na, hna⟩⟩
  have I3' := I3.perm (perm8 _ _ _ _)
  have x0 : w3.cell? ⟨w1.heap.size, 0, none⟩ = some (.slice none 0 0) := I3'.b0.cell 0
  have x1 := I3'.b0.frozen 0
  have hc3 := I3.ps.next
  have hl3 := I3.ps.len
  have HRA := Lib.hid hra
  obtain ⟨Aa, ca, rfl⟩ := hra.form
  have I4 : Inv w1 NoZ b X (envOf s) σ3 ((w1.heap.size, 26, #[.slice Aa ar.length ca, .slice none 0 0]) :: _) _ _ := I3'.set0 0 (.slice Aa ar.length ca)
  have HI4 := Lib.hid I4
  have HNA := Lib.hid hna
  clear I3 I3' I4 hra hna HLA
  go_wp2_with fail
  refine (begins_inv ⟨#[116, 97, 115, 107]⟩ HI4.out (n := w3.heap.size) (by simp [World.setCell])).mono ?_
  rintro e w5 ⟨rfl, I5⟩
  have HLT := Lib.hid (listT_inv (lim := 8) (B1 := w3.heap.size) (B2 := w3.heap.size + 1) ⟨#[116, 97, 115, 107]⟩ I5 (by simp) (by simp))
  clear I5 HI4 x0 x1
  go_wp2_with fail
  refine HLT.out.mono ?_
  rintro e w6 ⟨σ6, els, vt, bt, bx, kx, rfl, hrt, hok, I6, hct, ⟨nt, hnt⟩⟩
  have I6' := I6.perm (perm9 _ _ _ _ _ _)
  have x0 : w6.cell? ⟨w1.heap.size, 1, none⟩ = some (.slice none 0 0) := I6'.b0.cell 1
  have x1 := I6'.b0.frozen 1
  have hc6 := I6.ps.next
  have HRT := Lib.hid hrt
  have HOK := Lib.hid hok
  obtain ⟨At, ct, rfl⟩ := hrt.form
  have I7 : Inv w1 NoZ b X (envOf s) σ6 ((w1.heap.size, 26, #[.slice Aa ar.length ca, .slice At els.length ct]) :: _) _ _ := I6'.set0 1 (.slice At els.length ct)
  have HNT := Lib.hid hnt
  have fin : ∀ (σ' : PP.St) (w5 : World) (va vt : Value) (bl : List OwnB), σ' = (if PP.more (envOf s) σ6 then PP.reject (envOf s) σ6 else σ6) → (σ'.err = 0 → va = .slice Aa ar.length ca ∧ vt = .slice At els.length ct) → (σ'.err ≠ 0 → va = .slice none 0 0 ∧ vt = .slice none 0 0) →
      Inv w1 NoZ b X (envOf s) σ' bl kx w5 → (∀ y ∈ ba ++ (bt ++ bx), y ∈ bl) → ∀ v0 v1, ProgEnd s w (.returned (.tuple #[.agg #[va, vt], .int .i64 ((PP.out zeroP (σ', (⟨ar, els.map TaskEl.data⟩ : ProgD))).2.1 : Int), .int .i64 ((PP.out zeroP (σ', (⟨ar, els.map TaskEl.data⟩ : ProgD))).2.2 : Int)])) ((w5.setCell ⟨w.heap.size, 0, none⟩ v0).setCell ⟨w.heap.size, 1, none⟩ v1) := by
    intro σ' w5 va vt bl hσ h0 h1 I5 hsub v0 v1
    have hB : Below w.heap.size w ((w5.setCell ⟨w.heap.size, 0, none⟩ v0).setCell ⟨w.heap.size, 1, none⟩ v1) := ((below_fr HB1.out I5.fr (by omega) HB1.out.size).setCell (p := ⟨w.heap.size, 0, none⟩) (Nat.le_refl _) v0).setCell (p := ⟨w.heap.size, 1, none⟩) (Nat.le_refl _) v1
    have hws := HB1.out.size
    have hR := HR1.out.lt
    have hpr : PP.programP (envOf s) (max na nt) (sigOf s) = some (σ', ⟨ar, els.map TaskEl.data⟩) := by
      unfold PP.programP
      have e1 := PP.listP_le (envOf s) (one := fun _ σ => some (PP.arrayP (envOf s) σ)) (fun _ _ _ h => h) (Nat.le_max_left na nt) HNA.out
      have e2 := PP.listP_le (envOf s) (one := PP.taskP (envOf s)) (fun n σ r hh => PP.taskP_le (envOf s) (Nat.le_succ n) hh) (Nat.le_max_right na nt) HNT.out
      generalize max na nt = M at *
      have e1' : PP.listP (envOf s) PP.kwShared 4 (fun _ σ => some (PP.arrayP (envOf s) σ)) M (sigOf s) [] = some (σ3, ar) := e1
      have e2' : PP.listP (envOf s) PP.kwTask 8 (PP.taskP (envOf s)) M σ3 [] = some (σ6, els.map TaskEl.data) := e2
      rw [e1', Option.bind_some]
      simp only []
      rw [e2', hσ]; rfl
    by_cases he : σ'.err = 0
    · obtain ⟨rfl, rfl⟩ := h0 he
      refine ⟨_, _, _, _, ba, els, bt, bx, kx, hpr, rfl, ?_, hB⟩
      rw [show (PP.out zeroP (σ', (⟨ar, els.map TaskEl.data⟩ : ProgD))).1 = ⟨ar, els.map TaskEl.data⟩ from by unfold PP.out; rw [if_pos he]]
      refine ⟨HRA.out.mono hws, HRT.out.mono hws, rfl, fun x hx => (HOK.out x hx).mono hws, fun y hy => ?_, fun y hy => ?_, by show ar.length ≤ 65536; omega, by omega⟩
      · obtain ⟨k1, k2⟩ := I5.own y (hsub y hy)
        exact ⟨(k1.far (p := ⟨w.heap.size, 0, none⟩) (by show y.1 ≠ w.heap.size; omega) v0).far (p := ⟨w.heap.size, 1, none⟩) (by show y.1 ≠ w.heap.size; omega) v1, by omega⟩
      · have k1 := (I5.ks y hy).weak (Z' := (w1.heap.size ≤ ·)) (fun g hg _ => hg.1.resolve_left (fun h => h))
        exact (k1.keep (((Keep.refl _ _).set (p := ⟨w.heap.size, 0, none⟩) (by intro h; have : w1.heap.size ≤ w.heap.size := h; omega) v0).set (p := ⟨w.heap.size, 1, none⟩) (by intro h; have : w1.heap.size ≤ w.heap.size := h; omega) v1)).weak (fun g hg _ => by have : w1.heap.size ≤ g := hg; show w.heap.size ≤ g; omega)
    · obtain ⟨rfl, rfl⟩ := h1 he
      refine ⟨_, _, _, _, [], [], [], [], [], hpr, rfl, ?_, hB⟩
      rw [show (PP.out zeroP (σ', (⟨ar, els.map TaskEl.data⟩ : ProgD))).1 = zeroP from by unfold PP.out; rw [if_neg he]]
      exact ⟨RowV.nil _ _ _, RowV.nil _ _ _, rfl, fun x hx => by simp at hx, fun x hx => by simp at hx, fun x hx => by simp at hx, by simp [zeroP], by simp⟩
  have FIN := Lib.hid fin
  have HI7 := Lib.hid I7
  have hsub : ∀ (u v x : OwnB) (l : List OwnB), ∀ y ∈ ba ++ (bt ++ bx), y ∈ u :: v :: x :: (bt ++ (bx ++ (ba ++ l))) := by
    intro u v x l y hy
    simp only [List.mem_append, List.mem_cons] at hy ⊢
    rcases hy with h | h | h
    · exact .inr (.inr (.inr (.inr (.inr (.inl h)))))
    · exact .inr (.inr (.inr (.inl h)))
    · exact .inr (.inr (.inr (.inr (.inl h))))
  have HSUB := Lib.hid hsub
  clear I6 I6' I7 hrt hok hnt fin hsub HLT
  cases hm : PP.more (envOf s) σ6 with
  | false =>
    have HM := Lib.hid hm
    clear hm
    go_wp2_with fail
    refine (more_inv HM.out HI7.out).mono ?_
    rintro e w8 ⟨rfl, I8⟩
    have c4 := I8.ps.cells.2.2.2.2.1
    have c5 := I8.ps.cells.2.2.2.2.2
    have n0 : w8.cell? ⟨w1.heap.size, 0, none⟩ = some (.slice Aa ar.length ca) := I8.b0.cell 0
    have n1 : w8.cell? ⟨w1.heap.size, 1, none⟩ = some (.slice At els.length ct) := I8.b0.cell 1
    have hR5 := HR1.out.fr I8.fr (by omega)
    have r0 : w8.cell? ⟨w.heap.size, 0, none⟩ = some (.slice none 0 0) := hR5.cell 0
    have r1 : w8.cell? ⟨w.heap.size, 1, none⟩ = some (.slice none 0 0) := hR5.cell 1
    have q0 := hR5.frozen 0
    have q1 := hR5.frozen 1
    have hbR : b ≠ w.heap.size := by omega
    have hRb : w.heap.size ≠ b := by omega
    have HR5 := Lib.hid (fun v0 v1 => (show Blk ((w8.setCell ⟨w.heap.size, 0, none⟩ v0).setCell ⟨w.heap.size, 1, none⟩ v1) w.heap.size 26 #[v0, v1] from (hR5.set_ 0 v0).set_ 1 v1))
    have HI8 := Lib.hid I8
    clear I8 hR5 HI7 x0 x1
    by_cases he : σ6.err = 0
    · have e1 : ((σ6.err : Int) != 0) = false := by simp [he]
      have HE := Lib.hid he
      have HFIN := Lib.hid (FIN.out σ6 w8 _ _ _ (by rw [HM.out]; rfl) (fun _ => ⟨rfl, rfl⟩) (fun h => absurd he h) HI8.out (HSUB.out _ _ _ _))
      clear he
      go_wp2_with fail
      refine bodyPost_ret (prog3_result rfl rfl (HR5.out _ _)) rfl ?_
      have := HFIN.out (.slice Aa ar.length ca) (.slice At els.length ct)
      unfold PP.out at this
      rw [if_pos (by exact HE.out)] at this
      exact this
    · have e1 : ((σ6.err : Int) != 0) = true := by simpa using he
      have HE := Lib.hid he
      have HFIN := Lib.hid (FIN.out σ6 w8.drew _ _ _ (by rw [HM.out]; rfl) (fun h => absurd h he) (fun _ => ⟨rfl, rfl⟩) HI8.out.drew (HSUB.out _ _ _ _))
      clear he
      go_wp2_with fail
      go_region
      all_goals
        go_wp2_with fail
        refine bodyPost_ret (prog3_result rfl rfl (HR5.out _ _)) rfl ?_
        have := HFIN.out (.slice none 0 0) (.slice none 0 0)
        unfold PP.out at this
        rw [if_neg (by exact HE.out)] at this
        exact this
  | true =>
    have HM := Lib.hid hm
    clear hm
    go_wp2_with fail
    refine (more_inv HM.out HI7.out).mono ?_
    rintro e w8 ⟨rfl, I8⟩
    have HI8 := Lib.hid I8
    clear I8
    go_wp2_with fail
    refine (reject_inv HI8.out).mono ?_
    rintro e w9 ⟨rfl, I9⟩
    have he := PP.reject_err (envOf s) σ6
    have hmr : PP.reject (envOf s) σ6 = (if PP.more (envOf s) σ6 then PP.reject (envOf s) σ6 else σ6) := by rw [HM.out]; rfl
    have HMR := Lib.hid hmr
    have HI9 := Lib.hid I9
    clear I9 HI8 HI7 x0 x1 hmr
    generalize PP.reject (envOf s) σ6 = σ9 at *
    have c4 := HI9.out.ps.cells.2.2.2.2.1
    have c5 := HI9.out.ps.cells.2.2.2.2.2
    have hR5 := HR1.out.fr HI9.out.fr (by omega)
    have r0 : w9.cell? ⟨w.heap.size, 0, none⟩ = some (.slice none 0 0) := hR5.cell 0
    have r1 : w9.cell? ⟨w.heap.size, 1, none⟩ = some (.slice none 0 0) := hR5.cell 1
    have q0 := hR5.frozen 0
    have q1 := hR5.frozen 1
    have hbR : b ≠ w.heap.size := by omega
    have hRb : w.heap.size ≠ b := by omega
    have HR5 := Lib.hid (fun v0 v1 => (show Blk ((w9.setCell ⟨w.heap.size, 0, none⟩ v0).setCell ⟨w.heap.size, 1, none⟩ v1) w.heap.size 26 #[v0, v1] from (hR5.set_ 0 v0).set_ 1 v1))
    have HFIN := Lib.hid (FIN.out σ9 w9.drew _ _ _ HMR.out (fun h => absurd h he) (fun _ => ⟨rfl, rfl⟩) HI9.out.drew (HSUB.out _ _ _ _))
    have e1 : ((σ9.err : Int) != 0) = true := by simpa using he
    have HE := Lib.hid he
    clear hR5 he
    go_wp2_with fail
    go_region
    all_goals
      go_wp2_with fail
      refine bodyPost_ret (prog3_result rfl rfl (HR5.out _ _)) rfl ?_
      have := HFIN.out (.slice none 0 0) (.slice none 0 0)
      unfold PP.out at this
      rw [if_neg (by exact HE.out)] at this
      exact this
end
end Go.Proofs.YtglaecalbamnkaaGreatDoor
/- The examples of the parser's chapter. -/
namespace Go.Proofs.YtglaecalbamnkaaGreatDoor
open Go.RowKit Go.Maps
open PP (Tree ArrD TaskD ProgD)

theorem exprP_det {E : PP.Env} {n m : Nat} {σ : PP.St} {q q' : PP.St × Tree} (h : PP.exprP E n σ = some q) (h' : PP.exprP E m σ = some q') : q = q' :=
  Option.some.inj ((PP.exprP_le E (Nat.le_max_left n m) h).symm.trans (PP.exprP_le E (Nat.le_max_right n m) h'))
theorem programP_det {E : PP.Env} {n m : Nat} {σ : PP.St} {q q' : PP.St × ProgD} (h : PP.programP E n σ = some q) (h' : PP.programP E m σ = some q') : q = q' :=
  Option.some.inj ((PP.programP_le E (Nat.le_max_left n m) h).symm.trans (PP.programP_le E (Nat.le_max_right n m) h'))
/-- The children of a node, one by one. -/
theorem KidsC.at_ {w : World} {Z : Nat → Prop} {A : Option Addr} {kids : List Tree} (h : KidsC w Z A kids) (hn : kids ≠ []) : ∃ g o, A = some ⟨g, o, none⟩ ∧ Z g ∧ g < w.heap.size ∧ ∀ i t, kids[i]? = some t → ∃ k num nm A' c ks, t = .node k num nm ks ∧
    (w.cell? ⟨g, o + i * 4, none⟩ = some (.int .u8 ((k : Nat) : Int)) ∧ w.cell? ⟨g, o + i * 4 + 1, none⟩ = some (.int .i64 num) ∧ w.cell? ⟨g, o + i * 4 + 2, none⟩ = some (.string ⟨(nm : List UInt8).toArray⟩) ∧ w.cell? ⟨g, o + i * 4 + 3, none⟩ = some (.slice A' (ks : List Tree).length c)) ∧ KidsC w Z A' ks := by
  cases h with
  | mk _ _ g o K N S AA C KS hA hk hc hh =>
    obtain ⟨h1, h2, h3⟩ := hA hn
    refine ⟨g, o, h1, h2, h3, fun i t hi => ?_⟩
    have hlt : i < kids.length := (List.getElem?_eq_some_iff.1 hi).1
    have e := (hk i hlt).symm.trans hi
    injection e with e
    exact ⟨K i, N i, S i, AA i, C i, KS i, e.symm, hc i hlt, hh i hlt⟩
/-- The contract of Expr at a text whose tree is known. -/
theorem expr_at (s : ByteArray) (w : World) (hs : s.size ≤ maxLen) (hg : SignsIs w) (hO : OpsIs w) {n : Nat} {q : PP.St × Tree} (hq : PP.exprP (envOf s) n (sigOf s) = some q) : Calls Tryz.prog 8 #[.string s] w fun r w' =>
    ∃ v, r = .returned (.tuple #[v, .int .i64 ((PP.out PP.zeroT q).2.1 : Int), .int .i64 ((PP.out PP.zeroT q).2.2 : Int)]) ∧ NodeV w' (w.heap.size ≤ ·) v (PP.out PP.zeroT q).1 ∧ Below w.heap.size w w' :=
  (expr_any s w hs hg hO).mono fun _ _ ⟨v, _, _, h1, h2, h3, h4⟩ => ⟨v, by rw [h2, exprP_det h1 hq], by rw [← exprP_det h1 hq]; exact h3, h4⟩
theorem program_at (s : ByteArray) (w : World) (hs : s.size ≤ maxLen) (hg : SignsIs w) (hO : OpsIs w) {n : Nat} {q : PP.St × ProgD} (hq : PP.programP (envOf s) n (sigOf s) = some q) : Calls Tryz.prog 5 #[.string s] w fun r w' =>
    ∃ va vt ba els bt bx kx, r = .returned (.tuple #[.agg #[va, vt], .int .i64 ((PP.out zeroP q).2.1 : Int), .int .i64 ((PP.out zeroP q).2.2 : Int)]) ∧ ProgV w' w.heap.size va vt (PP.out zeroP q).1 ba els bt bx kx ∧ Below w.heap.size w w' :=
  (program_any s w hs hg hO).mono fun _ _ ⟨va, vt, _, _, ba, els, bt, bx, kx, h1, h2, h3, h4⟩ => ⟨va, vt, ba, els, bt, bx, kx, by rw [h2, programP_det h1 hq], by rw [← programP_det h1 hq]; exact h3, h4⟩

def awS : ByteArray := ⟨#[49, 32, 45, 32, 50, 32, 45, 32, 51, 32, 42, 32, 120]⟩
def awT : ByteArray := ⟨#[116, 97, 115, 107, 32, 116, 32, 112, 101, 114, 105, 111, 100, 32, 53, 32, 123, 32, 120, 32, 43, 61, 32, 49, 59, 32, 125]⟩
theorem aw_expr : PP.exprP (envOf awS) 40 (sigOf awS) = some (⟨7, 0, 0⟩, .node 7 0 [] [.node 7 0 [] [.node 1 1 [] [], .node 1 2 [] []], .node 8 0 [] [.node 1 3 [] [], .node 2 0 [120] []]]) := by kernel_rfl
theorem aw_prog : (PP.programP (envOf awT) 40 (sigOf awT)).map (fun q => (q.1.off, q.1.err)) = some (20, 3) := by kernel_rfl
theorem NodeV.two {w : World} {Z : Nat → Prop} {v : Value} {k : Nat} {num : Int} {nm : List UInt8} {t1 t2 : Tree} (h : NodeV w Z v (.node k num nm [t1, t2])) : ∃ g o c k1 num1 nm1 A1 c1 ks1 k2 num2 nm2 A2 c2 ks2,
    v = .agg #[.int .u8 (k : Int), .int .i64 num, .string ⟨nm.toArray⟩, .slice (some ⟨g, o, none⟩) 2 c] ∧ g < w.heap.size ∧ Z g ∧ t1 = .node k1 num1 nm1 ks1 ∧ t2 = .node k2 num2 nm2 ks2 ∧
    (w.cell? ⟨g, o, none⟩ = some (.int .u8 ((k1 : Nat) : Int)) ∧ w.cell? ⟨g, o + 1, none⟩ = some (.int .i64 num1) ∧ w.cell? ⟨g, o + 2, none⟩ = some (.string ⟨(nm1 : List UInt8).toArray⟩) ∧ w.cell? ⟨g, o + 3, none⟩ = some (.slice A1 (ks1 : List Tree).length c1)) ∧
    (w.cell? ⟨g, o + 4, none⟩ = some (.int .u8 ((k2 : Nat) : Int)) ∧ w.cell? ⟨g, o + 4 + 1, none⟩ = some (.int .i64 num2) ∧ w.cell? ⟨g, o + 4 + 2, none⟩ = some (.string ⟨(nm2 : List UInt8).toArray⟩) ∧ w.cell? ⟨g, o + 4 + 3, none⟩ = some (.slice A2 (ks2 : List Tree).length c2)) ∧ KidsC w Z A1 ks1 ∧ KidsC w Z A2 ks2 := by
  obtain ⟨k', num', nm', A, c, kids, rfl, ht, hk⟩ := h
  injection ht with e1 e2 e3 e4
  subst e1 e2 e3 e4
  obtain ⟨g, o, rfl, hz, hg, hat⟩ := hk.at_ (by simp)
  obtain ⟨k1, num1, nm1, A1, c1, ks1, h1, hc1, hk1⟩ := hat 0 t1 rfl
  obtain ⟨k2, num2, nm2, A2, c2, ks2, h2, hc2, hk2⟩ := hat 1 t2 rfl
  exact ⟨g, o, c, k1, num1, nm1, A1, c1, ks1, k2, num2, nm2, A2, c2, ks2, rfl, hg, hz, h1, h2, by simpa using hc1, by simpa using hc2, hk1, hk2⟩

theorem aw_call1 (w : World) (hg : SignsIs w) (hO : OpsIs w) : Calls Tryz.prog 8 #[.string ⟨#[49, 32, 45, 32, 50, 32, 45, 32, 51, 32, 42, 32, 120]⟩] w fun r w' =>
    ∃ g o c, r = .returned (.tuple #[.agg #[.int .u8 7, .int .i64 0, .string ⟨#[]⟩, .slice (some ⟨g, o, none⟩) 2 c], .int .i64 0, .int .i64 0]) ∧ g < w'.heap.size ∧ w'.cell? ⟨g, o, none⟩ = some (.int .u8 7) ∧ w'.cell? ⟨g, o + 4, none⟩ = some (.int .u8 8) ∧ Below w.heap.size w w' := by
  refine (expr_at awS w (by unfold awS maxLen; decide) hg hO aw_expr).mono ?_
  rintro r w1 ⟨v, rfl, hN, hb1⟩
  obtain ⟨g, o, c, k1, num1, nm1, A1, c1, ks1, k2, num2, nm2, A2, c2, ks2, rfl, hgl, hz, h1, h2, ⟨x0, _, _, _⟩, ⟨y0, _, _, _⟩, _, _⟩ := NodeV.two (k := 7) (num := 0) (nm := []) hN
  injection h1 with h1 _ _ _
  injection h2 with h2 _ _ _
  subst h1 h2
  exact ⟨g, o, c, rfl, hgl, x0, y0, hb1⟩
theorem aw_call2 (w : World) (hg : SignsIs w) (hO : OpsIs w) : Calls Tryz.prog 5 #[.string ⟨#[116, 97, 115, 107, 32, 116, 32, 112, 101, 114, 105, 111, 100, 32, 53, 32, 123, 32, 120, 32, 43, 61, 32, 49, 59, 32, 125]⟩] w fun r w' =>
    ∃ A n c A' n' c', r = .returned (.tuple #[.agg #[.slice A n c, .slice A' n' c'], .int .i64 20, .int .i64 3]) ∧ Below w.heap.size w w' := by
  obtain ⟨q, hq1, hq2⟩ := Option.map_eq_some_iff.1 aw_prog
  have hq3 : q.1.off = 20 := congrArg Prod.fst hq2
  have hq4 : q.1.err = 3 := congrArg Prod.snd hq2
  have hout : (PP.out zeroP q).2.1 = 20 ∧ (PP.out zeroP q).2.2 = 3 := by unfold PP.out; rw [if_neg (by omega)]; exact ⟨hq3, hq4⟩
  refine (program_at awT w (by unfold awT maxLen; decide) hg hO hq1).mono ?_
  rintro r w2 ⟨va, vt, ba, els, bt, bx, kx, rfl, hv, hb3⟩
  obtain ⟨Av, cv, rfl⟩ := hv.ra.form
  obtain ⟨At, ct, rfl⟩ := hv.rt.form
  rw [hout.1, hout.2]
  exact ⟨_, _, _, _, _, _, rfl, hb3⟩
section
set_option maxHeartbeats 1000000
set_option maxRecDepth 100000
theorem awake13_any (w : World) (hg : SignsIs w) (hO : OpsIs w) : Calls Tryz.prog 4 #[] w fun e w' => e = .returned (.bool true) ∧ Below w.heap.size w w' := by
  have HG := Lib.hid hg
  have HO := Lib.hid hO
  have HE := Lib.hid (aw_call1 w hg hO)
  clear hg hO
  go_enter Tryz.func4, Tryz.ntmps4
  go_wp2_with fail
  refine HE.out.mono ?_
  rintro e w1 ⟨g, o, c, rfl, hgl, x0, y0, hb1⟩
  have hb2 : Below w.heap.size w (w1.alloc (.cells #[.int .u8 7, .int .i64 0, .string ⟨#[]⟩, .slice (some ⟨g, o, none⟩) 2 c] 36)) := hb1.alloc hb1.size _
  have HP := Lib.hid (aw_call2 _ (HG.out.below hb2 HG.out.pos) (HO.out.below hb2))
  have HB2 := Lib.hid hb2
  clear hb2 HE hb1
  go_wp2_with fail
  refine HP.out.mono ?_
  rintro e w2 ⟨Av, nv, cv, At, nt, ct, rfl, hb3⟩
  have hgw : g < (w1.alloc (.cells #[.int .u8 7, .int .i64 0, .string ⟨#[]⟩, .slice (some ⟨g, o, none⟩) 2 c] 36)).heap.size := by simp; omega
  have z0 : w2.cell? ⟨g, o, none⟩ = some (.int .u8 7) := (hb3.cell (p := ⟨g, o, none⟩) hgw).trans ((World.cell?_alloc_past _ _ _ hgl).trans x0)
  have z1 : w2.cell? ⟨g, o + 4, none⟩ = some (.int .u8 8) := (hb3.cell (p := ⟨g, o + 4, none⟩) hgw).trans ((World.cell?_alloc_past _ _ _ hgl).trans y0)
  have z2 : Blk w2 w1.heap.size 36 #[.int .u8 7, .int .i64 0, .string ⟨#[]⟩, .slice (some ⟨g, o, none⟩) 2 c] := (hb3.block _ (by simp)).trans (Blk.new _ _ _)
  obtain ⟨⟨n0, n1, n2, n3⟩, _, _, _, _⟩ := z2.four
  have hs2 := z2.lt
  have hg2 : g < w2.heap.size := by omega
  have hB4 := Lib.hid (HB2.out.trans (hb3.mono HB2.out.size))
  clear hb3 x0 y0 z2 HP hgw
  go_wp2_with fail
  go_ret
  exact ⟨rfl, hB4.out.alloc hB4.out.size _⟩
end
end Go.Proofs.YtglaecalbamnkaaGreatDoor
