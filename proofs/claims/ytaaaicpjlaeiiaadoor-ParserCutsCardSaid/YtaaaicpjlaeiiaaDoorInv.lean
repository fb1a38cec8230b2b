/- What a reader of the parser knows midway, in one bundle: the parser's state, its tables, its own blocks, the trees that it holds. -/
import Derived.Test.YtaaaicpjlaeiiaaDoorParJ
namespace Go.Proofs.YtaaaicpjlaeiiaaDoor
open Go.RowKit Go.Maps
open PP (Tree)

abbrev OwnB := Nat × TypeId × Array Value
def NoZ : Nat → Prop := fun _ => False
structure Inv (w0 : World) (Z : Nat → Prop) (b : Nat) (X : Loc) (E : PP.Env) (σ : PP.St) (bl : List OwnB) (ks : List (Option Addr × List Tree)) (W : World) : Prop where
  ps : PS W b X E σ
  gx0 : Gx w0 b X
  ps0 : ∃ σ0, PS w0 b X E σ0
  fr : Fr b w0 W
  zb : ¬ Z b
  own : ∀ x ∈ bl, Blk W x.1 x.2.1 x.2.2 ∧ w0.heap.size ≤ x.1
  nd : (bl.map (·.1)).Nodup
  ks : ∀ x ∈ ks, KidsC W (fun g => (Z g ∨ w0.heap.size ≤ g) ∧ g ∉ bl.map (·.1)) x.1 x.2
section
variable {w0 W W' : World} {Z : Nat → Prop} {b : Nat} {X : Loc} {E : PP.Env} {σ σ' : PP.St} {bl : List OwnB} {ks : List (Option Addr × List Tree)}
theorem Inv.start (hp : PS W b X E σ) (hg : Gx W b X) (hz : ¬ Z b) : Inv W Z b X E σ [] [] W := ⟨hp, hg, ⟨σ, hp⟩, Fr.refl b W, hz, fun _ h => by simp at h, by simp, fun _ h => by simp at h⟩
theorem Inv.lt (h : Inv w0 Z b X E σ bl ks W) : b < w0.heap.size := by obtain ⟨_, h0⟩ := h.ps0; exact h0.lt
theorem Inv.gx (h : Inv w0 Z b X E σ bl ks W) : Gx W b X := h.gx0.fr h.fr
/-- A frame around the parser's block keeps all. -/
theorem Inv.call (h : Inv w0 Z b X E σ bl ks W) (hp : PS W' b X E σ') (hf : Fr b W W') : Inv w0 Z b X E σ' bl ks W' := by
  have hlt := h.lt
  refine ⟨hp, h.gx0, h.ps0, h.fr.trans hf, h.zb, fun x hx => ?_, h.nd, fun x hx => ?_⟩
  · obtain ⟨h1, h2⟩ := h.own x hx
    exact ⟨h1.fr hf (by omega), h2⟩
  · exact (h.ks x hx).keep ((Keep.refl _ _).fr hf (by intro hz; rcases hz.1 with hz | hz; exact h.zb hz; omega))
/-- The same, where the call began in a world that differs in its draws alone. -/
theorem Inv.callA {W1 : World} (h : Inv w0 Z b X E σ bl ks W) (hp : PS W' b X E σ') (hf : Fr b W1 W') (h1 : W1.os = W.os) (h2 : W1.tape = W.tape) (h3 : W1.output = W.output) (h4 : W1.heap = W.heap) : Inv w0 Z b X E σ' bl ks W' :=
  h.call hp ((⟨h1, h2, h3, by rw [h4]; exact Nat.le_refl _, fun _ _ _ => by rw [h4]⟩ : Fr b W W1).trans hf)
theorem Inv.drewN (h : Inv w0 Z b X E σ bl ks W) (n : Nat) : Inv w0 Z b X E σ bl ks (W.drewN n) := h.call (h.ps.drewN n) ((Fr.refl b W).drewN n)
theorem Inv.drew (h : Inv w0 Z b X E σ bl ks W) : Inv w0 Z b X E σ bl ks W.drew := h.call h.ps.drew (Fr.refl b W).drew
/-- A call that hands a tree back. -/
theorem Inv.tree (h : Inv w0 Z b X E σ bl ks W) (hp : PS W' b X E σ') (hf : Fr b W W') {A : Option Addr} {kids : List Tree} (hk : KidsC W' (W.heap.size ≤ ·) A kids) : Inv w0 Z b X E σ' bl ((A, kids) :: ks) W' := by
  have hc := h.call hp hf
  refine ⟨hc.ps, hc.gx0, hc.ps0, hc.fr, hc.zb, hc.own, hc.nd, fun x hx => ?_⟩
  rcases List.mem_cons.1 hx with rfl | hx
  · refine hk.weak (fun g hg _ => ⟨.inr (Nat.le_trans h.fr.size hg), fun hm => ?_⟩)
    obtain ⟨y, hy, rfl⟩ := List.mem_map.1 hm
    have := (h.own y hy).1.lt
    omega
  · exact hc.ks x hx
/-- A new block of the reader's own. -/
theorem Inv.alloc (h : Inv w0 Z b X E σ bl ks W) (cs : Array Value) (t : TypeId) {n : Nat} (hn : W.heap.size = n) : Inv w0 Z b X E σ ((n, t, cs) :: bl) ks (W.alloc (.cells cs t)) := by
  subst hn
  have hc := h.call (h.ps.alloc (.cells cs t)) ((Fr.refl b W).alloc (.cells cs t))
  refine ⟨hc.ps, hc.gx0, hc.ps0, hc.fr, hc.zb, fun x hx => ?_, ?_, fun x hx => ?_⟩
  · rcases List.mem_cons.1 hx with rfl | hx
    · exact ⟨Blk.new W t cs, h.fr.size⟩
    · exact hc.own x hx
  · simp only [List.map_cons, List.nodup_cons]
    refine ⟨fun hm => ?_, h.nd⟩
    obtain ⟨y, hy, hyy⟩ := List.mem_map.1 hm
    have := (h.own y hy).1.lt
    omega
  · refine ((h.ks x hx).weak (Z' := fun g => (Z g ∨ w0.heap.size ≤ g) ∧ g ∉ List.map (·.1) ((W.heap.size, t, cs) :: bl)) (fun g hg hlt => ⟨hg.1, ?_⟩)).keep ((Keep.refl _ _).alloc _)
    simp only [List.map_cons, List.mem_cons, not_or]
    exact ⟨by omega, hg.2⟩
/-- A new block that is not the reader's own. -/
theorem Inv.more (h : Inv w0 Z b X E σ bl ks W) (o : Obj) : Inv w0 Z b X E σ bl ks (W.alloc o) := h.call (h.ps.alloc o) ((Fr.refl b W).alloc o)
/-- The next index is stored. -/
theorem Inv.next (h : Inv w0 Z b X E σ bl ks W) (k : Nat) (hk : k ≤ E.ts.length) : Inv w0 Z b X E ⟨k, σ.off, σ.err⟩ bl ks (W.setCell ⟨b, 1, none⟩ (.int .i64 (k : Int))) :=
  h.call (h.ps.setNext k hk) ((Fr.refl b W).set 1 _)
theorem Inv.adv (h : Inv w0 Z b X E σ bl ks W) (hn : σ.next < E.ts.length) : Inv w0 Z b X E (PP.adv σ) bl ks (W.setCell ⟨b, 1, none⟩ (.int .i64 ((σ.next : Int) + 1))) := h.next (σ.next + 1) (by omega)
/-- A store into a block of the reader's own. -/
theorem Inv.set {l1 l2 : List OwnB} {g : Nat} {t : TypeId} {cs : Array Value} (h : Inv w0 Z b X E σ (l1 ++ (g, t, cs) :: l2) ks W) (i : Nat) (v : Value) : Inv w0 Z b X E σ (l1 ++ (g, t, cs.setIfInBounds i v) :: l2) ks (W.setCell ⟨g, i, none⟩ v) := by
  have hg := h.own (g, t, cs) (by simp)
  have hlt := h.lt
  have hgl : w0.heap.size ≤ g := hg.2
  have hmap : (l1 ++ (g, t, cs.setIfInBounds i v) :: l2).map (·.1) = (l1 ++ (g, t, cs) :: l2).map (·.1) := by simp
  have hnd := h.nd
  obtain ⟨σ0, h0⟩ := h.ps0
  refine ⟨h0.far h.fr h.ps (p := ⟨g, i, none⟩) hgl v, h.gx0, h.ps0, h.fr.far (p := ⟨g, i, none⟩) hgl v, h.zb, fun x hx => ?_, by rw [hmap]; exact hnd, fun x hx => ?_⟩
  · rw [List.map_append, List.map_cons, List.nodup_append] at hnd
    obtain ⟨_, hn2, hn3⟩ := hnd
    rw [List.nodup_cons] at hn2
    rcases List.mem_append.1 hx with hx | hx
    · have hne : x.1 ≠ g := hn3 x.1 (List.mem_map_of_mem hx) g (by simp)
      obtain ⟨k1, k2⟩ := h.own x (by simp [hx])
      exact ⟨k1.far (p := ⟨g, i, none⟩) hne v, k2⟩
    · rcases List.mem_cons.1 hx with rfl | hy
      · exact ⟨hg.1.set_ i v, hgl⟩
      · have hne : x.1 ≠ g := fun e => hn2.1 (e ▸ List.mem_map.2 ⟨x, hy, rfl⟩)
        obtain ⟨k1, k2⟩ := h.own x (by simp [hy])
        exact ⟨k1.far (p := ⟨g, i, none⟩) hne v, k2⟩
  · rw [hmap]
    exact (h.ks x hx).keep ((Keep.refl _ _).set (p := ⟨g, i, none⟩) (by intro hz; exact hz.2 (by simp)) v)
variable {g g1 g2 : Nat} {t t1 t2 : TypeId} {cs c1 c2 : Array Value}
theorem Inv.set0 (h : Inv w0 Z b X E σ ((g, t, cs) :: bl) ks W) (i : Nat) (v : Value) : Inv w0 Z b X E σ ((g, t, cs.setIfInBounds i v) :: bl) ks (W.setCell ⟨g, i, none⟩ v) := Inv.set (l1 := []) h i v
theorem Inv.set1 (h : Inv w0 Z b X E σ ((g1, t1, c1) :: (g, t, cs) :: bl) ks W) (i : Nat) (v : Value) : Inv w0 Z b X E σ ((g1, t1, c1) :: (g, t, cs.setIfInBounds i v) :: bl) ks (W.setCell ⟨g, i, none⟩ v) := Inv.set (l1 := [(g1, t1, c1)]) h i v
theorem Inv.set2 (h : Inv w0 Z b X E σ ((g1, t1, c1) :: (g2, t2, c2) :: (g, t, cs) :: bl) ks W) (i : Nat) (v : Value) : Inv w0 Z b X E σ ((g1, t1, c1) :: (g2, t2, c2) :: (g, t, cs.setIfInBounds i v) :: bl) ks (W.setCell ⟨g, i, none⟩ v) := Inv.set (l1 := [(g1, t1, c1), (g2, t2, c2)]) h i v
variable {a0 a1 a2 a3 : Value}
theorem Inv.st0 (h : Inv w0 Z b X E σ ((g, t, #[a0, a1, a2, a3]) :: bl) ks W) (v0 v1 v2 v3 : Value) : Inv w0 Z b X E σ ((g, t, #[v0, v1, v2, v3]) :: bl) ks ((((W.setCell ⟨g, 0, none⟩ v0).setCell ⟨g, 1, none⟩ v1).setCell ⟨g, 2, none⟩ v2).setCell ⟨g, 3, none⟩ v3) :=
  (((h.set0 0 v0).set0 1 v1).set0 2 v2).set0 3 v3
theorem Inv.st1 (h : Inv w0 Z b X E σ ((g1, t1, c1) :: (g, t, #[a0, a1, a2, a3]) :: bl) ks W) (v0 v1 v2 v3 : Value) : Inv w0 Z b X E σ ((g1, t1, c1) :: (g, t, #[v0, v1, v2, v3]) :: bl) ks ((((W.setCell ⟨g, 0, none⟩ v0).setCell ⟨g, 1, none⟩ v1).setCell ⟨g, 2, none⟩ v2).setCell ⟨g, 3, none⟩ v3) :=
  (((h.set1 0 v0).set1 1 v1).set1 2 v2).set1 3 v3
theorem Inv.st2 (h : Inv w0 Z b X E σ ((g1, t1, c1) :: (g2, t2, c2) :: (g, t, #[a0, a1, a2, a3]) :: bl) ks W) (v0 v1 v2 v3 : Value) : Inv w0 Z b X E σ ((g1, t1, c1) :: (g2, t2, c2) :: (g, t, #[v0, v1, v2, v3]) :: bl) ks ((((W.setCell ⟨g, 0, none⟩ v0).setCell ⟨g, 1, none⟩ v1).setCell ⟨g, 2, none⟩ v2).setCell ⟨g, 3, none⟩ v3) :=
  (((h.set2 0 v0).set2 1 v1).set2 2 v2).set2 3 v3
theorem Inv.blk (h : Inv w0 Z b X E σ bl ks W) {x : OwnB} (hx : x ∈ bl) : Blk W x.1 x.2.1 x.2.2 := (h.own x hx).1
theorem Inv.b0 (h : Inv w0 Z b X E σ ((g, t, cs) :: bl) ks W) : Blk W g t cs := h.blk (x := (g, t, cs)) (by simp)
theorem Inv.b1 (h : Inv w0 Z b X E σ ((g1, t1, c1) :: (g, t, cs) :: bl) ks W) : Blk W g t cs := h.blk (x := (g, t, cs)) (by simp)
theorem Inv.b2 (h : Inv w0 Z b X E σ ((g1, t1, c1) :: (g2, t2, c2) :: (g, t, cs) :: bl) ks W) : Blk W g t cs := h.blk (x := (g, t, cs)) (by simp)
theorem Inv.ne (h : Inv w0 Z b X E σ bl ks W) {x : OwnB} (hx : x ∈ bl) : x.1 ≠ b ∧ b ≠ x.1 := by
  have h1 := (h.own x hx).2
  have h2 := h.lt
  exact ⟨by omega, by omega⟩
/-- A block is dropped from the list: it is not written any more. -/
theorem Inv.drop (h : Inv w0 Z b X E σ ((g, t, cs) :: bl) ks W) : Inv w0 Z b X E σ bl ks W := by
  refine ⟨h.ps, h.gx0, h.ps0, h.fr, h.zb, fun x hx => h.own x (by simp [hx]), ?_, fun x hx => (h.ks x hx).weak (fun g hg _ => ⟨hg.1, fun hm => hg.2 ?_⟩)⟩
  · have := h.nd
    rw [List.map_cons, List.nodup_cons] at this
    exact this.2
  · rw [List.map_cons]; exact List.mem_cons_of_mem _ hm
/-- More trees are known of the same world. -/
theorem Inv.addKs (h : Inv w0 Z b X E σ bl ks W) {A : Option Addr} {kids : List Tree} (hk : KidsC W (fun g => (Z g ∨ w0.heap.size ≤ g) ∧ g ∉ bl.map (·.1)) A kids) : Inv w0 Z b X E σ bl ((A, kids) :: ks) W :=
  ⟨h.ps, h.gx0, h.ps0, h.fr, h.zb, h.own, h.nd, fun x hx => by
    rcases List.mem_cons.1 hx with rfl | hx
    · exact hk
    · exact h.ks x hx⟩
theorem Inv.fresh (h : Inv w0 Z b X E σ bl ks W) : (Z W.heap.size ∨ w0.heap.size ≤ W.heap.size) ∧ W.heap.size ∉ bl.map (·.1) :=
  ⟨.inr h.fr.size, fun hm => by
    obtain ⟨y, hy, hyy⟩ := List.mem_map.1 hm
    have := (h.own y hy).1.lt
    omega⟩
/-- A new array of nodes out of trees that are held. -/
theorem Inv.kids1 (h : Inv w0 Z b X E σ bl ks W) {k : Nat} {num : Int} {nm : List UInt8} {A : Option Addr} {c : Nat} {kids : List Tree} (hm : (A, kids) ∈ ks) {n : Nat} (hn : W.heap.size = n) :
    Inv w0 Z b X E σ bl ((some ⟨n, 0, none⟩, [.node k num nm kids]) :: ks) (W.alloc (.cells #[.int .u8 (k : Int), .int .i64 num, .string ⟨nm.toArray⟩, .slice A kids.length c] 24)) := by
  subst hn
  exact (h.more _).addKs (kids_one h.fresh (h.ks _ hm) _)
theorem Inv.kids2 (h : Inv w0 Z b X E σ bl ks W) {k : Nat} {num : Int} {nm : List UInt8} {A : Option Addr} {c : Nat} {kids : List Tree} (hm : (A, kids) ∈ ks)
    {k' : Nat} {num' : Int} {nm' : List UInt8} {A' : Option Addr} {c' : Nat} {kids' : List Tree} (hm' : (A', kids') ∈ ks) {n : Nat} (hn : W.heap.size = n) :
    Inv w0 Z b X E σ bl ((some ⟨n, 0, none⟩, [.node k num nm kids, .node k' num' nm' kids']) :: ks) (W.alloc (.cells #[.int .u8 (k : Int), .int .i64 num, .string ⟨nm.toArray⟩, .slice A kids.length c, .int .u8 (k' : Int), .int .i64 num', .string ⟨nm'.toArray⟩, .slice A' kids'.length c'] 24)) := by
  subst hn
  exact (h.more _).addKs (kids_two h.fresh (h.ks _ hm) (h.ks _ hm') _)
/-- The end of a reader. -/
theorem Inv.done {w : World} (h : Inv w NoZ b X E σ' bl ks W) {A : Option Addr} {kids : List Tree} (hm : (A, kids) ∈ ks) {R : PP.St → Tree → Prop} {k : Nat} {num : Int} {nm : List UInt8} {c : Nat} (hR : R σ' (.node k num nm kids)) (hn : σ.next ≤ σ'.next) :
    TreeEnd b X E σ w R (.returned (.agg #[.int .u8 (k : Int), .int .i64 num, .string ⟨nm.toArray⟩, .slice A kids.length c])) W :=
  ⟨_, _, σ', rfl, ⟨k, num, nm, A, c, kids, rfl, rfl, (h.ks _ hm).weak (fun _ hg _ => hg.1.resolve_left (fun h => h))⟩, h.ps, h.fr, hR, hn⟩
end
-- The small contracts, over the bundle.
section
variable {w0 : World} {Z : Nat → Prop} {b : Nat} {X : Loc} {E : PP.Env} {σ : PP.St}
theorem require_inv (s : ByteArray) {bl : List OwnB} {ks : List (Option Addr × List Tree)} {W : World} (h : Inv w0 Z b X E σ bl ks W) :
    Calls Tryd.prog 103 #[.pointer (some ⟨b, 0, none⟩), .string s] W fun r w' => r = .returned (.tuple #[]) ∧ Inv w0 Z b X E (PP.require E σ s.data.toList) bl ks w' :=
  (require_any s W h.ps).mono fun _ _ ⟨h1, h2, h3⟩ => ⟨h1, h.call h2 h3⟩
theorem numP_inv (low high : Int) (hl0 : 0 ≤ low) (hh0 : 0 ≤ high) (hh : high ≤ 2147483647) {bl : List OwnB} {ks : List (Option Addr × List Tree)} {W : World} (h : Inv w0 Z b X E σ bl ks W) :
    Calls Tryd.prog 104 #[.pointer (some ⟨b, 0, none⟩), .int .i64 low, .int .i64 high] W fun r w' => r = .returned (.int .i64 (PP.numP E σ low high).2) ∧ Inv w0 Z b X E (PP.numP E σ low high).1 bl ks w' :=
  (numP_any low high W hl0 hh0 hh h.ps).mono fun _ _ ⟨h1, h2, h3⟩ => ⟨h1, h.call h2 h3⟩
theorem nameP_inv {bl : List OwnB} {ks : List (Option Addr × List Tree)} {W : World} (h : Inv w0 Z b X E σ bl ks W) :
    Calls Tryd.prog 102 #[.pointer (some ⟨b, 0, none⟩)] W fun r w' => r = .returned (.string ⟨(PP.nameP E σ).2.toArray⟩) ∧ Inv w0 Z b X E (PP.nameP E σ).1 bl ks w' :=
  (nameP_any W h.gx.gl h.ps).mono fun _ _ ⟨h1, h2, h3⟩ => ⟨h1, h.call h2 h3⟩
end
end Go.Proofs.YtaaaicpjlaeiiaaDoor
