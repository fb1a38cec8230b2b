/- The contract of the parser's sequence of nodes. -/
import Derived.Test.YtaaaicpjlaeiiaaDoorParK
import Derived.Test.YtaaaicpjlaeiiaaDoorPlainPar4
namespace Go.Proofs.YtaaaicpjlaeiiaaDoor
open Go.RowKit Go.Maps
open PP (Tree)

/-- An element of a row of nodes. -/
structure NodeE where
  k : Nat
  num : Int
  nm : List UInt8
  A : Option Addr
  c : Nat
  kids : List Tree
def NodeE.cells (x : NodeE) : List Value := [.int .u8 (x.k : Int), .int .i64 x.num, .string ⟨x.nm.toArray⟩, .slice x.A x.kids.length x.c]
def NodeE.tree (x : NodeE) : Tree := .node x.k x.num x.nm x.kids
def nodesCells (xs : List NodeE) : List Value := xs.flatMap NodeE.cells
theorem nodesCells_length (xs : List NodeE) : (nodesCells xs).length = xs.length * 4 := by
  induction xs with
  | nil => rfl
  | cons t xs ih => simp [nodesCells, NodeE.cells] at *; omega
theorem nodesCells_snoc (xs : List NodeE) (x : NodeE) : nodesCells (xs ++ [x]) = nodesCells xs ++ x.cells := by simp [nodesCells]
theorem nodesCells_at : ∀ {xs : List NodeE} {i : Nat} {x : NodeE} (_ : xs[i]? = some x), (nodesCells xs)[i * 4]? = some (.int .u8 (x.k : Int)) ∧ (nodesCells xs)[i * 4 + 1]? = some (.int .i64 x.num) ∧ (nodesCells xs)[i * 4 + 2]? = some (.string ⟨x.nm.toArray⟩) ∧ (nodesCells xs)[i * 4 + 3]? = some (.slice x.A x.kids.length x.c)
  | [], i, x, h => by simp at h
  | y :: ys, 0, x, h => by
    simp at h; subst h
    exact ⟨rfl, rfl, rfl, rfl⟩
  | y :: ys, i + 1, x, h => by
    have := nodesCells_at (xs := ys) (i := i) (x := x) (by simpa using h)
    have e : nodesCells (y :: ys) = y.cells ++ nodesCells ys := by simp [nodesCells]
    have hl : y.cells.length = 4 := rfl
    rw [e]
    refine ⟨?_, ?_, ?_, ?_⟩
    · rw [List.getElem?_append_right (by omega), show (i + 1) * 4 - y.cells.length = i * 4 from by omega]; exact this.1
    · rw [List.getElem?_append_right (by omega), show (i + 1) * 4 + 1 - y.cells.length = i * 4 + 1 from by omega]; exact this.2.1
    · rw [List.getElem?_append_right (by omega), show (i + 1) * 4 + 2 - y.cells.length = i * 4 + 2 from by omega]; exact this.2.2.1
    · rw [List.getElem?_append_right (by omega), show (i + 1) * 4 + 3 - y.cells.length = i * 4 + 3 from by omega]; exact this.2.2.2
def NodeE.zero : NodeE := ⟨0, 0, [], none, 0, []⟩
/-- A row of nodes whose trees are known is the row of those trees. -/
theorem kids_of_row {W : World} {base : Nat} {Z : Nat → Prop} {v : Value} {els : List NodeE} (h : W.ownsRow base 24 4 v els.length (nodesCells els)) (hk : ∀ x ∈ els, KidsC W Z x.A x.kids) (hz : ∀ g, v.ownBlock = some g → Z g) :
    ∃ A c, v = .slice A (els.map NodeE.tree).length c ∧ KidsC W Z A (els.map NodeE.tree) := by
  rw [List.length_map]
  by_cases hn : 0 < els.length
  · obtain ⟨g, cap, rfl, _, hg, _, hc⟩ := own_cells h hn
    refine ⟨_, _, rfl, .mk _ _ g 0 (fun i => (els.getD i .zero).k) (fun i => (els.getD i .zero).num) (fun i => (els.getD i .zero).nm) (fun i => (els.getD i .zero).A) (fun i => (els.getD i .zero).c) (fun i => (els.getD i .zero).kids) (fun _ => ⟨rfl, hz g rfl, hg⟩) (fun i hi => ?_) (fun i hi => ?_) (fun i hi => ?_)⟩
    all_goals
      rw [List.length_map] at hi
      have he : els[i]? = some (els.getD i .zero) := by rw [List.getD_eq_getElem?_getD, List.getElem?_eq_getElem hi]; rfl
    · rw [List.getElem?_map, he]; rfl
    · obtain ⟨c0, c1, c2, c3⟩ := nodesCells_at he
      rw [show 0 + i * 4 = i * 4 from by omega]
      exact ⟨hc _ _ c0, hc _ _ c1, hc _ _ c2, hc _ _ c3⟩
    · exact hk _ (List.mem_of_getElem? he)
  · obtain ⟨A, c, rfl⟩ := own_form h
    have : els = [] := by cases els with
      | nil => rfl
      | cons a l => simp at hn
    subst this
    exact ⟨A, c, rfl, KidsC.nil _ _ _⟩

theorem own_fr {b : Nat} {w wd w3 : World} {base : Nat} {e : TypeId} {size : Nat} {v : Value} {n : Nat} {xs : List Value} (h : w.ownsRow base e size v n xs) (k : Fr b wd w3) (he : wd.heap = w.heap) (hb : b < base) : w3.ownsRow base e size v n xs := by
  refine ⟨h.1, ?_⟩
  rcases h.2 with hn | ⟨g, cap, cur, rfl, hb', hgg, rest⟩
  · exact .inl hn
  · refine .inr ⟨g, cap, cur, rfl, hb', ?_, rest⟩
    have hlt := (Array.getElem?_eq_some_iff.1 hgg).1
    rw [k.block g (by rw [he]; exact hlt) (by intro e; injection e with e; omega), he]
    exact hgg
theorem Fr.grow {b : Nat} {w W W' : World} {row : Option Nat} (h : Fr b w W) (k : W.grownBy W' row) (hr : ∀ g, row = some g → w.heap.size ≤ g) : Fr b w W' :=
  ⟨k.os.trans h.os, k.tape.trans h.tape, k.output.trans h.output, Nat.le_trans h.size k.size, fun i hi hn => (k.block i (Nat.lt_of_lt_of_le hi h.size) (fun e => by have := hr i e.symm; omega)).trans (h.block i hi hn)⟩
def errOf (w : World) (b : Nat) : Nat := match w.cell? ⟨b, 5, none⟩ with
  | some v => (intOf v).toNat
  | none => 0
theorem errOf_ps {w : World} {b : Nat} {X : Loc} {E : PP.Env} {σ : PP.St} (h : PS w b X E σ) : errOf w b = σ.err := by
  unfold errOf
  rw [h.cells.2.2.2.2.2]
  simp [intOf]
/-- How much a loop over constructs has still to read. -/
def leftOf (E : PP.Env) (b : Nat) (w : World) : Nat := if errOf w b = 0 then E.ts.length - nextOf w b else 0
theorem leftOf_ps {w : World} {b : Nat} {X : Loc} {E : PP.Env} {σ : PP.St} (h : PS w b X E σ) : leftOf E b w = if σ.err = 0 then E.ts.length - σ.next else 0 := by
  unfold leftOf
  rw [errOf_ps h, nextOf_ps h]
def cntOk (σ : PP.St) (n : Nat) : Prop := n ≤ σ.next + if σ.err = 0 then 0 else 1

def SeqRel (b : Nat) (X : Loc) (E : PP.Env) (σ : PP.St) (top : Bool) (w : World) (v : Value) (wr : World) : Prop :=
  ∃ σ' els, PS wr b X E σ' ∧ Fr b w wr ∧ σ.next ≤ σ'.next ∧ cntOk σ' (els : List NodeE).length ∧ wr.ownsRow w.heap.size 24 4 v els.length (nodesCells els) ∧
    (∀ x ∈ els, KidsC wr (fun g => w.heap.size ≤ g ∧ v.ownBlock ≠ some g) x.A x.kids) ∧ ∀ n r, PP.stmts E n top σ' (els.map NodeE.tree) = some r → ∃ n', PP.stmts E n' top σ [] = some r
def SeqEnd (b : Nat) (X : Loc) (E : PP.Env) (σ : PP.St) (top : Bool) (w : World) (r : Ending) (w' : World) : Prop :=
  ∃ A c ts σ', r = .returned (.slice A (ts : List Tree).length c) ∧ KidsC w' (w.heap.size ≤ ·) A ts ∧ PS w' b X E σ' ∧ Fr b w w' ∧ (∃ n, PP.stmts E n top σ [] = some (σ', ts)) ∧ σ.next ≤ σ'.next
theorem infoNode : (Tryd.prog.info? 24).map (fun i => (i.zero, i.size, i.bytes)) = some (some (.agg #[.int .u8 0, .int .i64 0, .string ⟨#[]⟩, .slice none 0 0]), 4, 56) := by kernel_rfl
theorem seq_step {b : Nat} {X : Loc} {E : PP.Env} {σ σ' σ3 : PP.St} {top : Bool} {w wr wd w3 w4 : World} {v v4 : Value} {els : List NodeE} {x : NodeE} {o : Obj} {g m3 : Nat}
    (h0 : PS w b X E σ) (hF : Fr b w wr) (hn : σ.next ≤ σ'.next) (hc : cntOk σ' els.length) (hown : wr.ownsRow w.heap.size 24 4 v els.length (nodesCells els))
    (hk : ∀ x ∈ els, KidsC wr (fun g => w.heap.size ≤ g ∧ v.ownBlock ≠ some g) x.A x.kids) (hgo : ∀ n r, PP.stmts E n top σ' (els.map NodeE.tree) = some r → ∃ n', PP.stmts E n' top σ [] = some r)
    (hgs : PP.goes E top σ' = true) (hFd : Fr b wr wd) (hf3 : Fr b wd w3) (h3 : PS w3 b X E σ3) (hk3 : KidsC w3 (wd.heap.size ≤ ·) x.A x.kids) (hr3 : PP.statement E m3 σ' = some (σ3, x.tree))
    (hown4 : w4.ownsRow w.heap.size 24 4 v4 (els.length + 1) (nodesCells els ++ x.cells)) (hg4 : (w3.alloc o).grownBy w4 v.ownBlock) (hat : v.ownBlock = some g ∨ g = w3.heap.size + 1) (hv4 : v4.ownBlock = some g) :
    (PS w4 b X E σ3 ∧ (σ3.err ≠ 0 ∨ σ'.next < σ3.next) ∧ σ'.err = 0 ∧ σ'.next < E.ts.length) ∧ SeqRel b X E σ top w v4 w4 := by
  have hbl := h0.lt
  obtain ⟨hle, hadv⟩ := (PP.stmt_le E m3).2.2.2 _ _ hr3
  have hmore : σ'.err = 0 ∧ σ'.next < E.ts.length := by
    unfold PP.goes at hgs
    simp only [Bool.and_eq_true] at hgs
    exact PP.more_err E hgs.1
  have hvr : ∀ k, v.ownBlock = some k → w.heap.size ≤ k ∧ k < wr.heap.size := fun k hk => hown.lt k hk
  have hs1 : wr.heap.size ≤ wd.heap.size := hFd.size
  have hs2 := hf3.size
  have hF3 : Fr b w w3 := (hF.trans hFd).trans hf3
  have hFa := hF3.alloc o
  have hF4 : Fr b w w4 := hFa.grow hg4 (fun k hk => (hvr k hk).1)
  have hblk : w4.heap[b]? = (w3.alloc o).heap[b]? := hg4.block b (by have := h3.lt; simp; omega) (fun e => by have := (hvr b e.symm).1; omega)
  have hp4 : PS w4 b X E σ3 := h0.fr hF4 (hblk.trans (h3.alloc o).blk) h3.next
  refine ⟨⟨hp4, hadv, hmore⟩, σ3, els ++ [x], hp4, hF4, Nat.le_trans hn hle.1, ?_, ?_, ?_, ?_⟩
  · unfold cntOk at hc ⊢
    rw [if_pos hmore.1] at hc
    have h1 := hle.1
    simp only [List.length_append, List.length_cons, List.length_nil] at h1 ⊢
    rcases hadv with h2 | h2
    · rw [if_neg h2]; omega
    · split
      · simp only at h2; omega
      · omega
  · rw [nodesCells_snoc, List.length_append]; exact hown4
  · have kp : ∀ Z : Nat → Prop, (∀ k, Z k → v.ownBlock ≠ some k) → Keep Z (w3.alloc o) w4 := fun Z hz => ⟨hg4.size, fun k hk hlt => hg4.block k hlt (fun e => hz k hk e.symm)⟩
    intro y hy
    rcases List.mem_append.1 hy with hy | hy
    · have h1 := (hk y hy).weak (Z' := fun k => w.heap.size ≤ k ∧ v.ownBlock ≠ some k ∧ k ≠ g) (fun k hk hlt => ⟨hk.1, hk.2, by
        rintro rfl
        rcases hat with h | h
        · exact hk.2 h
        · omega⟩)
      have h2 := h1.keep (((Keep.refl _ _).fr hFd (by intro hz; have := hz.1; omega)).fr hf3 (by intro hz; have := hz.1; omega))
      have h3 := h2.keep (((Keep.refl _ _).alloc o).trans (kp _ (fun k hk => hk.2.1)))
      refine h3.weak (fun k hk _ => ⟨hk.1, ?_⟩)
      rw [hv4]; intro e; injection e with e; exact hk.2.2 e.symm
    · simp only [List.mem_cons, List.not_mem_nil, or_false] at hy
      subst hy
      have h1 := hk3.weak (Z' := fun k => w.heap.size ≤ k ∧ v.ownBlock ≠ some k ∧ k ≠ g) (fun k hk hlt => by
        have hk' : wd.heap.size ≤ k := hk
        refine ⟨by have := hF.size; omega, fun e => ?_, ?_⟩
        · have := (hvr k e).2; omega
        · rintro rfl
          rcases hat with h | h
          · have := (hvr k h).2; omega
          · omega)
      have h3 := h1.keep (((Keep.refl _ _).alloc o).trans (kp _ (fun k hk => hk.2.1)))
      refine h3.weak (fun k hk _ => ⟨hk.1, ?_⟩)
      rw [hv4]; intro e; injection e with e; exact hk.2.2 e.symm
  · intro n r hr
    rw [List.map_append] at hr
    refine hgo (max m3 n + 1) r ?_
    rw [PP.stmts, hgs, PP.statement_le E (Nat.le_max_left m3 n) hr3]
    exact PP.stmts_le E (Nat.le_max_right m3 n) hr

section
set_option maxHeartbeats 1000000
set_option maxRecDepth 100000
attribute [local go_sem ↓] Go.wp_at_zero Go.wp_at_succ
variable {b : Nat} {X : Loc} {E : PP.Env} {σ : PP.St}
theorem sequence_any (top : Bool) (w : World) (hg : Gx w b X) (h : PS w b X E σ) (gf of_ : FuncId) (gfirst gcap ofirst ocap : Array Value)
    (hcg : ∀ W, Sem.run Tryd.prog (callFunc gf (gfirst ++ gcap)) W = .ok (Next.enter gf (gfirst ++ gcap)) W)
    (hco : ∀ W, Sem.run Tryd.prog (callFunc of_ (ofirst ++ ocap)) W = .ok (Next.enter of_ (ofirst ++ ocap)) W)
    (HG : ∀ σ' W, PS W b X E σ' → Fr b w W → Calls Tryd.prog gf (gfirst ++ gcap) W fun e w' => e = .returned (.bool (PP.goes E top σ')) ∧ ∃ n, w' = W.drewN n)
    (HO : ∀ σ' W, Gx W b X → PS W b X E σ' → σ.next ≤ σ'.next → PP.goes E top σ' = true → Calls Tryd.prog of_ (ofirst ++ ocap) W (TreeEnd b X E σ' W fun σ'' t => ∃ n, PP.statement E n σ' = some (σ'', t))) :
    Calls Tryd.prog 127 #[.pointer (some ⟨b, 0, none⟩), .func (.func gf) gfirst gcap, .func (.func of_) ofirst ocap] w (SeqEnd b X E σ top w) := by
  have H0 := Lib.hid h
  have HGX := Lib.hid hg
  have HHG := Lib.hid HG
  have HHO := Lib.hid HO
  have hlen := h.len
  have hnx := h.next
  have hbl := h.lt
  obtain ⟨i0, hi, hz0, hz1, hz2⟩ := info_parts infoNode
  have HI := Lib.hid hi
  have HZ0 := Lib.hid hz0
  have HZ1 := Lib.hid hz1
  have HZ2 := Lib.hid hz2
  clear hi hz0 hz1 hz2 h hg HG HO
  go_enter Tryd.func127, Tryd.ntmps127
  go_wp2_with fail
  go_loopw [7] (fun v wr => SeqRel b X E σ top w v wr) (fun _ wr => leftOf E b wr)
  case atStart => exact ⟨σ, [], H0.out, Fr.refl b w, Nat.le_refl _, Nat.zero_le _, World.ownsRow_nil _ _ _ _, fun _ hx => by simp at hx, fun n r hr => ⟨n, hr⟩⟩
  case round =>
    obtain ⟨σ', els, hp, hF, hn, hc, hown, hk, hgo⟩ := hrel
    have HM := Lib.hid (leftOf_ps hp)
    have HP := Lib.hid hp
    have HF := Lib.hid hF
    have HC := Lib.hid hc
    have HOW := Lib.hid hown
    have HK := Lib.hid hk
    have HGO := Lib.hid hgo
    have hgc := HHG.out σ' wr hp hF
    have hpn := hp.next
    clear hp hF hc hown hk hgo
    cases hgs : PP.goes E top σ' with
    | false =>
      rw [hgs] at hgc
      have HGC := Lib.hid hgc
      have HGS := Lib.hid hgs
      clear hgc hgs
      go_wp2_with fail
      refine HGC.out.mono ?_
      rintro e w1 ⟨rfl, n1, rfl⟩
      go_wp2_with fail
      go_ret
      obtain ⟨A, c, hv, hkk⟩ := kids_of_row (W := wr.drewN n1) (HOW.out.kept (row := none) ⟨rfl, rfl, rfl, Nat.le_refl _, fun _ _ _ => rfl⟩ (by cases hv : Value.ownBlock _ <;> simp)) (fun x hx => ((HK.out x hx).weak (Z' := (w.heap.size ≤ ·)) (fun g hg _ => hg.1)).keep ((Keep.refl _ _).drewN n1)) (fun g hg => (HOW.out.lt g hg).1)
      obtain ⟨n', hn'⟩ := HGO.out 1 (σ', els.map NodeE.tree) (by rw [PP.stmts, HGS.out]; rfl)
      rw [hv]
      exact ⟨A, c, _, σ', rfl, hkk, HP.out.drewN n1, HF.out.drewN n1, ⟨n', hn'⟩, hn⟩
    | true =>
      rw [hgs] at hgc
      have hone := fun n1 => HHO.out σ' (wr.drewN n1) (HGX.out.fr (HF.out.drewN n1)) (HP.out.drewN n1) hn hgs
      have HGC := Lib.hid hgc
      have HGS := Lib.hid hgs
      have HONE := Lib.hid hone
      clear hgc hgs hone
      go_wp2_with fail
      refine HGC.out.mono ?_
      rintro e w1 ⟨rfl, n1, rfl⟩
      go_wp2_with fail
      refine (HONE.out n1).mono ?_
      rintro e w3 ⟨v3, t3, σ3, rfl, ⟨k3, num3, nm3, A3, c3, kids3, rfl, rfl, hk3⟩, h3, hf3, ⟨m3, hr3⟩, hn3⟩
      have HK3 := Lib.hid hk3
      have HH3 := Lib.hid h3
      have HF3 := Lib.hid hf3
      have HR3 := Lib.hid hr3
      have HOW3 := Lib.hid ((own_fr HOW.out hf3 rfl hbl).alloc (.cells #[.int .u8 (k3 : Int), .int .i64 num3, .string ⟨nm3.toArray⟩, .slice A3 kids3.length c3] 24))
      have hle : els.length ≤ 65537 := by
        have := HC.out
        unfold cntOk at this
        split at this <;> omega
      have hsz3 := HF.out.size
      have hsz4 : wr.heap.size ≤ w3.heap.size := hf3.size
      clear hk3 h3 hf3 hr3
      go_wp2_with (at_builtin; refine wpList_append_lies _ rfl _ _ 22 rfl w.heap.size 24 i0 (.agg #[.int .u8 0, .int .i64 0, .string ⟨#[]⟩, .slice none 0 0]) 4 56 Tryd.underlying22 HI.out HZ0.out HZ1.out HZ2.out rfl (by decide) _ _ _ rfl HOW3.out ⟨w3.heap.size, 0, none⟩ 1 1 [.int .u8 (k3 : Int), .int .i64 num3, .string ⟨nm3.toArray⟩, .slice A3 kids3.length c3] rfl rfl ?c1 ?c2 (by decide) ?c3 ?c4 ?c5 (w3.heap.size + 1) ?c6 ?_)
      case c1 => exact World.news_of_block (heap_alloc_new w3 _)
      case c2 => intro u hu; simp at hu; rcases hu with rfl | rfl | rfl | rfl <;> rfl
      case c3 => unfold maxLen; omega
      case c4 => omega
      case c5 => simp; omega
      case c6 => simp
      intro g cap w4 hown4 hg4 hat hlt4
      have HS := Lib.hid (seq_step (top := top) (σ := σ) (x := ⟨k3, num3, nm3, A3, c3, kids3⟩) H0.out HF.out hn HC.out HOW.out HK.out HGO.out HGS.out ((Fr.refl b wr).drewN n1) HF3.out HH3.out HK3.out HR3.out hown4 hg4 hat rfl)
      clear hown4 hg4 hat
      go_wp2_with fail
      go_roundw
      case rel => exact HS.out.2
      case measure =>
        obtain ⟨h1, h2, h3, h4⟩ := HS.out.1
        rw [leftOf_ps h1, HM.out, if_pos h3]
        rcases h2 with h2 | h2
        · rw [if_neg h2]; omega
        · split <;> omega
end
end Go.Proofs.YtaaaicpjlaeiiaaDoor
