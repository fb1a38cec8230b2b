/- What the reference's reader knows midway, in one bundle (written by wip/mkrdi.py from Inv). -/
import Derived.Test.YtglaecalbamnkaaGreatDoorRdB
namespace Go.Proofs.YtglaecalbamnkaaGreatDoor
open Go.RowKit Go.Maps
open PP (Tree)

structure RInv (w0 : World) (Z : Nat → Prop) (b : Nat) (Y : RLoc) (E : PP.Env) (σ : PP.St) (bl : List OwnB) (ks : List (Option Addr × List Tree)) (W : World) : Prop where
  ps : RS W b Y E σ
  ps0 : ∃ σ0, RS w0 b Y E σ0
  fr : Fr b w0 W
  zb : ¬ Z b
  own : ∀ x ∈ bl, Blk W x.1 x.2.1 x.2.2 ∧ w0.heap.size ≤ x.1
  nd : (bl.map (·.1)).Nodup
  ks : ∀ x ∈ ks, KidsC W (fun g => (Z g ∨ w0.heap.size ≤ g) ∧ g ∉ bl.map (·.1)) x.1 x.2
section
variable {w0 W W' : World} {Z : Nat → Prop} {b : Nat} {Y : RLoc} {E : PP.Env} {σ σ' : PP.St} {bl : List OwnB} {ks : List (Option Addr × List Tree)}
theorem RInv.start (hp : RS W b Y E σ) (hz : ¬ Z b) : RInv W Z b Y E σ [] [] W := ⟨hp, ⟨σ, hp⟩, Fr.refl b W, hz, fun _ h => by simp at h, by simp, fun _ h => by simp at h⟩
theorem RInv.lt (h : RInv w0 Z b Y E σ bl ks W) : b < w0.heap.size := by obtain ⟨_, h0⟩ := h.ps0; exact h0.lt
/-- A frame around the parser's block keeps all. -/
theorem RInv.call (h : RInv w0 Z b Y E σ bl ks W) (hp : RS W' b Y E σ') (hf : Fr b W W') : RInv w0 Z b Y E σ' bl ks W' := by
  have hlt := h.lt
  refine ⟨hp, h.ps0, h.fr.trans hf, h.zb, fun x hx => ?_, h.nd, fun x hx => ?_⟩
  · obtain ⟨h1, h2⟩ := h.own x hx
    exact ⟨h1.fr hf (by omega), h2⟩
  · exact (h.ks x hx).keep ((Keep.refl _ _).fr hf (by intro hz; rcases hz.1 with hz | hz; exact h.zb hz; omega))
/-- The same, where the call began in a world that differs in its draws alone. -/
theorem RInv.callA {W1 : World} (h : RInv w0 Z b Y E σ bl ks W) (hp : RS W' b Y E σ') (hf : Fr b W1 W') (h1 : W1.os = W.os) (h2 : W1.tape = W.tape) (h3 : W1.output = W.output) (h4 : W1.heap = W.heap) : RInv w0 Z b Y E σ' bl ks W' :=
  h.call hp ((⟨h1, h2, h3, by rw [h4]; exact Nat.le_refl _, fun _ _ _ => by rw [h4]⟩ : Fr b W W1).trans hf)
theorem RInv.drewN (h : RInv w0 Z b Y E σ bl ks W) (n : Nat) : RInv w0 Z b Y E σ bl ks (W.drewN n) := h.call (h.ps.drewN n) ((Fr.refl b W).drewN n)
theorem RInv.drew (h : RInv w0 Z b Y E σ bl ks W) : RInv w0 Z b Y E σ bl ks W.drew := h.call h.ps.drew (Fr.refl b W).drew
/-- A call that hands a tree back. -/
theorem RInv.tree (h : RInv w0 Z b Y E σ bl ks W) (hp : RS W' b Y E σ') (hf : Fr b W W') {A : Option Addr} {kids : List Tree} (hk : KidsC W' (W.heap.size ≤ ·) A kids) : RInv w0 Z b Y E σ' bl ((A, kids) :: ks) W' := by
  have hc := h.call hp hf
  refine ⟨hc.ps, hc.ps0, hc.fr, hc.zb, hc.own, hc.nd, fun x hx => ?_⟩
  rcases List.mem_cons.1 hx with rfl | hx
  · refine hk.weak (fun g hg _ => ⟨.inr (Nat.le_trans h.fr.size hg), fun hm => ?_⟩)
    obtain ⟨y, hy, rfl⟩ := List.mem_map.1 hm
    have := (h.own y hy).1.lt
    omega
  · exact hc.ks x hx
/-- A new block of the reader's own. -/
theorem RInv.alloc (h : RInv w0 Z b Y E σ bl ks W) (cs : Array Value) (t : TypeId) {n : Nat} (hn : W.heap.size = n) : RInv w0 Z b Y E σ ((n, t, cs) :: bl) ks (W.alloc (.cells cs t)) := by
  subst hn
  have hc := h.call (h.ps.alloc (.cells cs t)) ((Fr.refl b W).alloc (.cells cs t))
  refine ⟨hc.ps, hc.ps0, hc.fr, hc.zb, fun x hx => ?_, ?_, fun x hx => ?_⟩
  · rcases List.mem_cons.1 hx with rfl | hx
    · exact ⟨Blk.new W t cs, h.fr.size⟩
    · exact hc.own x hx
  · simp only [List.map_cons, List.nodup_cons]
    refine ⟨fun hm => ?_, h.nd⟩
    obtain ⟨y, hy, hyy⟩ := List.mem_map.1 hm
    have := (h.own y hy).1.lt
    omega
  · refine ((h.ks x hx).weak (Z' := fun g => (Z g ∨ w0.heap.size ≤ g) ∧ g ∉ List.map (·.1) ((W.heap.size, t, cs) :: bl)) (fun g hg hlt => ⟨hg.1, ?_⟩)).keep ((Keep.refl _ _).alloc _)
    simp only [List.map_cons, List.mem_cons, not_or]
    exact ⟨by omega, hg.2⟩
/-- A new block that is not the reader's own. -/
theorem RInv.more (h : RInv w0 Z b Y E σ bl ks W) (o : Obj) : RInv w0 Z b Y E σ bl ks (W.alloc o) := h.call (h.ps.alloc o) ((Fr.refl b W).alloc o)
/-- A store into a block of the reader's own. -/
theorem RInv.set {l1 l2 : List OwnB} {g : Nat} {t : TypeId} {cs : Array Value} (h : RInv w0 Z b Y E σ (l1 ++ (g, t, cs) :: l2) ks W) (i : Nat) (v : Value) : RInv w0 Z b Y E σ (l1 ++ (g, t, cs.setIfInBounds i v) :: l2) ks (W.setCell ⟨g, i, none⟩ v) := by
  have hg := h.own (g, t, cs) (by simp)
  have hlt := h.lt
  have hgl : w0.heap.size ≤ g := hg.2
  have hmap : (l1 ++ (g, t, cs.setIfInBounds i v) :: l2).map (·.1) = (l1 ++ (g, t, cs) :: l2).map (·.1) := by simp
  have hnd := h.nd
  obtain ⟨σ0, h0⟩ := h.ps0
  refine ⟨h0.far h.fr h.ps (p := ⟨g, i, none⟩) hgl v, h.ps0, h.fr.far (p := ⟨g, i, none⟩) hgl v, h.zb, fun x hx => ?_, by rw [hmap]; exact hnd, fun x hx => ?_⟩
  · rw [List.map_append, List.map_cons, List.nodup_append] at hnd
    obtain ⟨_, hn2, hn3⟩ := hnd
    rw [List.nodup_cons] at hn2
    rcases List.mem_append.1 hx with hx | hx
    · have hne : x.1 ≠ g := hn3 x.1 (List.mem_map_of_mem hx) g (by simp)
      obtain ⟨k1, k2⟩ := h.own x (by simp [hx])
      exact ⟨k1.far (p := ⟨g, i, none⟩) hne v, k2⟩
    · rcases List.mem_cons.1 hx with rfl | hy
      · exact ⟨hg.1.set_ i v, hgl⟩
      · have hne : x.1 ≠ g := fun e => hn2.1 (e ▸ List.mem_map.2 ⟨x, hy, rfl⟩)
        obtain ⟨k1, k2⟩ := h.own x (by simp [hy])
        exact ⟨k1.far (p := ⟨g, i, none⟩) hne v, k2⟩
  · rw [hmap]
    exact (h.ks x hx).keep ((Keep.refl _ _).set (p := ⟨g, i, none⟩) (by intro hz; exact hz.2 (by simp)) v)
variable {g g1 g2 : Nat} {t t1 t2 : TypeId} {cs c1 c2 : Array Value}
theorem RInv.set0 (h : RInv w0 Z b Y E σ ((g, t, cs) :: bl) ks W) (i : Nat) (v : Value) : RInv w0 Z b Y E σ ((g, t, cs.setIfInBounds i v) :: bl) ks (W.setCell ⟨g, i, none⟩ v) := RInv.set (l1 := []) h i v
theorem RInv.set1 (h : RInv w0 Z b Y E σ ((g1, t1, c1) :: (g, t, cs) :: bl) ks W) (i : Nat) (v : Value) : RInv w0 Z b Y E σ ((g1, t1, c1) :: (g, t, cs.setIfInBounds i v) :: bl) ks (W.setCell ⟨g, i, none⟩ v) := RInv.set (l1 := [(g1, t1, c1)]) h i v
theorem RInv.set2 (h : RInv w0 Z b Y E σ ((g1, t1, c1) :: (g2, t2, c2) :: (g, t, cs) :: bl) ks W) (i : Nat) (v : Value) : RInv w0 Z b Y E σ ((g1, t1, c1) :: (g2, t2, c2) :: (g, t, cs.setIfInBounds i v) :: bl) ks (W.setCell ⟨g, i, none⟩ v) := RInv.set (l1 := [(g1, t1, c1), (g2, t2, c2)]) h i v
variable {a0 a1 a2 a3 : Value}
theorem RInv.st0 (h : RInv w0 Z b Y E σ ((g, t, #[a0, a1, a2, a3]) :: bl) ks W) (v0 v1 v2 v3 : Value) : RInv w0 Z b Y E σ ((g, t, #[v0, v1, v2, v3]) :: bl) ks ((((W.setCell ⟨g, 0, none⟩ v0).setCell ⟨g, 1, none⟩ v1).setCell ⟨g, 2, none⟩ v2).setCell ⟨g, 3, none⟩ v3) :=
  (((h.set0 0 v0).set0 1 v1).set0 2 v2).set0 3 v3
theorem RInv.st1 (h : RInv w0 Z b Y E σ ((g1, t1, c1) :: (g, t, #[a0, a1, a2, a3]) :: bl) ks W) (v0 v1 v2 v3 : Value) : RInv w0 Z b Y E σ ((g1, t1, c1) :: (g, t, #[v0, v1, v2, v3]) :: bl) ks ((((W.setCell ⟨g, 0, none⟩ v0).setCell ⟨g, 1, none⟩ v1).setCell ⟨g, 2, none⟩ v2).setCell ⟨g, 3, none⟩ v3) :=
  (((h.set1 0 v0).set1 1 v1).set1 2 v2).set1 3 v3
theorem RInv.st2 (h : RInv w0 Z b Y E σ ((g1, t1, c1) :: (g2, t2, c2) :: (g, t, #[a0, a1, a2, a3]) :: bl) ks W) (v0 v1 v2 v3 : Value) : RInv w0 Z b Y E σ ((g1, t1, c1) :: (g2, t2, c2) :: (g, t, #[v0, v1, v2, v3]) :: bl) ks ((((W.setCell ⟨g, 0, none⟩ v0).setCell ⟨g, 1, none⟩ v1).setCell ⟨g, 2, none⟩ v2).setCell ⟨g, 3, none⟩ v3) :=
  (((h.set2 0 v0).set2 1 v1).set2 2 v2).set2 3 v3
theorem RInv.blk (h : RInv w0 Z b Y E σ bl ks W) {x : OwnB} (hx : x ∈ bl) : Blk W x.1 x.2.1 x.2.2 := (h.own x hx).1
theorem RInv.b0 (h : RInv w0 Z b Y E σ ((g, t, cs) :: bl) ks W) : Blk W g t cs := h.blk (x := (g, t, cs)) (by simp)
theorem RInv.b1 (h : RInv w0 Z b Y E σ ((g1, t1, c1) :: (g, t, cs) :: bl) ks W) : Blk W g t cs := h.blk (x := (g, t, cs)) (by simp)
theorem RInv.b2 (h : RInv w0 Z b Y E σ ((g1, t1, c1) :: (g2, t2, c2) :: (g, t, cs) :: bl) ks W) : Blk W g t cs := h.blk (x := (g, t, cs)) (by simp)
theorem RInv.ne (h : RInv w0 Z b Y E σ bl ks W) {x : OwnB} (hx : x ∈ bl) : x.1 ≠ b ∧ b ≠ x.1 := by
  have h1 := (h.own x hx).2
  have h2 := h.lt
  exact ⟨by omega, by omega⟩
/-- A block is dropped from the list: it is not written any more. -/
theorem RInv.drop (h : RInv w0 Z b Y E σ ((g, t, cs) :: bl) ks W) : RInv w0 Z b Y E σ bl ks W := by
  refine ⟨h.ps, h.ps0, h.fr, h.zb, fun x hx => h.own x (by simp [hx]), ?_, fun x hx => (h.ks x hx).weak (fun g hg _ => ⟨hg.1, fun hm => hg.2 ?_⟩)⟩
  · have := h.nd
    rw [List.map_cons, List.nodup_cons] at this
    exact this.2
  · rw [List.map_cons]; exact List.mem_cons_of_mem _ hm
/-- More trees are known of the same world. -/
theorem RInv.addKs (h : RInv w0 Z b Y E σ bl ks W) {A : Option Addr} {kids : List Tree} (hk : KidsC W (fun g => (Z g ∨ w0.heap.size ≤ g) ∧ g ∉ bl.map (·.1)) A kids) : RInv w0 Z b Y E σ bl ((A, kids) :: ks) W :=
  ⟨h.ps, h.ps0, h.fr, h.zb, h.own, h.nd, fun x hx => by
    rcases List.mem_cons.1 hx with rfl | hx
    · exact hk
    · exact h.ks x hx⟩
theorem RInv.fresh (h : RInv w0 Z b Y E σ bl ks W) : (Z W.heap.size ∨ w0.heap.size ≤ W.heap.size) ∧ W.heap.size ∉ bl.map (·.1) :=
  ⟨.inr h.fr.size, fun hm => by
    obtain ⟨y, hy, hyy⟩ := List.mem_map.1 hm
    have := (h.own y hy).1.lt
    omega⟩
/-- A new array of nodes out of trees that are held. -/
theorem RInv.kids1 (h : RInv w0 Z b Y E σ bl ks W) {k : Nat} {num : Int} {nm : List UInt8} {A : Option Addr} {c : Nat} {kids : List Tree} (hm : (A, kids) ∈ ks) {n : Nat} (hn : W.heap.size = n) :
    RInv w0 Z b Y E σ bl ((some ⟨n, 0, none⟩, [.node k num nm kids]) :: ks) (W.alloc (.cells #[.int .u8 (k : Int), .int .i64 num, .string ⟨nm.toArray⟩, .slice A kids.length c] 36)) := by
  subst hn
  exact (h.more _).addKs (kids_one h.fresh (h.ks _ hm) _)
theorem RInv.kids2 (h : RInv w0 Z b Y E σ bl ks W) {k : Nat} {num : Int} {nm : List UInt8} {A : Option Addr} {c : Nat} {kids : List Tree} (hm : (A, kids) ∈ ks)
    {k' : Nat} {num' : Int} {nm' : List UInt8} {A' : Option Addr} {c' : Nat} {kids' : List Tree} (hm' : (A', kids') ∈ ks) {n : Nat} (hn : W.heap.size = n) :
    RInv w0 Z b Y E σ bl ((some ⟨n, 0, none⟩, [.node k num nm kids, .node k' num' nm' kids']) :: ks) (W.alloc (.cells #[.int .u8 (k : Int), .int .i64 num, .string ⟨nm.toArray⟩, .slice A kids.length c, .int .u8 (k' : Int), .int .i64 num', .string ⟨nm'.toArray⟩, .slice A' kids'.length c'] 36)) := by
  subst hn
  exact (h.more _).addKs (kids_two h.fresh (h.ks _ hm) (h.ks _ hm') _)
end
section
variable {w0 W : World} {Z : Nat → Prop} {b : Nat} {Y : RLoc} {E : PP.Env} {σ : PP.St} {bl bl' : List OwnB} {ks : List (Option Addr × List Tree)}
theorem RInv.perm (h : RInv w0 Z b Y E σ bl ks W) (p : bl.Perm bl') : RInv w0 Z b Y E σ bl' ks W := by
  have pm := p.map (·.1)
  refine ⟨h.ps, h.ps0, h.fr, h.zb, fun x hx => h.own x (p.mem_iff.2 hx), pm.nodup_iff.1 h.nd, fun x hx => (h.ks x hx).weak (fun g hg _ => ⟨hg.1, fun hm => hg.2 (pm.mem_iff.2 hm)⟩)⟩
end
/-- After an append: the row's block is known anew. -/
theorem RInv.append {w0 : World} {Z : Nat → Prop} {b : Nat} {Y : RLoc} {E : PP.Env} {σ : PP.St} {bs rest : List OwnB} {ks : List (Option Addr × List Tree)} {W W' : World} {e : TypeId} {size : Nat} {v v' : Value} {n n' : Nat} {xs xs' : List Value} {g H : Nat}
    (h : RInv w0 Z b Y E σ (bs ++ rest) ks W) (hr : RowV w0.heap.size e size v n xs bs) (hown : W'.ownsRow w0.heap.size e size v' n' xs') (hg : W.grownBy W' v.ownBlock) (hat : v.ownBlock = some g ∨ g = H) (hH : W.heap.size = H) (hv : v'.ownBlock = some g) :
    ∃ bs', RowV w0.heap.size e size v' n' xs' bs' ∧ RInv w0 Z b Y E σ (bs' ++ rest) ks W' := by
  subst hH
  obtain ⟨bs', hr', hb', hnd'⟩ := row_of_own hown
  refine ⟨bs', hr', ?_⟩
  have hlt := h.lt
  have hvr : ∀ k, v.ownBlock = some k → w0.heap.size ≤ k ∧ k ∈ bs.map (·.1) := by
    intro k hk
    rcases hr.2 with ⟨rfl, rfl, _⟩ | ⟨g, cap, cur, rfl, h1, _, _, _, _, rfl⟩
    · simp [Value.ownBlock] at hk
    · simp [Value.ownBlock] at hk; subst hk; exact ⟨h1, by simp⟩
  have hF : Fr b w0 W' := h.fr.grow hg (fun k hk => (hvr k hk).1)
  obtain ⟨σ0, h0⟩ := h.ps0
  have hp : RS W' b Y E σ := by
    obtain ⟨k, c, pe, A, hs⟩ := h.ps.st
    exact h0.fr hF ⟨k, c, pe, A, hs.keep (hg.block b h.ps.lt (fun e => by have := (hvr b e.symm).1; omega))⟩
  have hnd := h.nd
  rw [List.map_append, List.nodup_append] at hnd
  have hrest : ∀ x ∈ rest, x.1 ≠ g := by
    intro x hx e
    rcases hat with h1 | h1
    · exact hnd.2.2 x.1 (by rw [e]; exact (hvr g h1).2) x.1 (List.mem_map_of_mem hx) rfl
    · have := (h.own x (by simp [hx])).1.lt; omega
  refine ⟨hp, h.ps0, hF, h.zb, fun x hx => ?_, ?_, fun x hx => ?_⟩
  · rcases List.mem_append.1 hx with hx | hx
    · exact hb' x hx
    · obtain ⟨k1, k2⟩ := h.own x (by simp [hx])
      refine ⟨(hg.block x.1 k1.lt (fun e => ?_)).trans k1, k2⟩
      exact hnd.2.2 x.1 (hvr x.1 e.symm).2 x.1 (List.mem_map_of_mem hx) rfl
  · rw [List.map_append, List.nodup_append]
    refine ⟨hnd', hnd.2.1, fun a ha c hc => ?_⟩
    obtain ⟨x, hx, rfl⟩ := List.mem_map.1 ha
    obtain ⟨y, hy, rfl⟩ := List.mem_map.1 hc
    have h1 := hr'.blk hx
    rw [hv] at h1
    injection h1 with h1
    exact fun e => hrest y hy (by rw [← e, ← h1])
  · have k0 := (h.ks x hx).weak (Z' := fun k => ((Z k ∨ w0.heap.size ≤ k) ∧ k ∉ (bs ++ rest).map (·.1)) ∧ k ≠ g) (fun k hk hlt => ⟨hk, by
      rintro rfl
      rcases hat with h1 | h1
      · exact hk.2 (by rw [List.map_append]; exact List.mem_append_left _ (hvr k h1).2)
      · omega⟩)
    refine (k0.keep ⟨hg.size, fun k hk hlt => hg.block k hlt (fun e => hk.1.2 ?_)⟩).weak (fun k hk _ => ⟨hk.1.1, fun hm => ?_⟩)
    · rw [List.map_append]; exact List.mem_append_left _ (hvr k e.symm).2
    · rw [List.map_append] at hm
      rcases List.mem_append.1 hm with hm | hm
      · obtain ⟨y, hy, rfl⟩ := List.mem_map.1 hm
        have h1 := hr'.blk hy
        rw [hv] at h1
        injection h1 with h1
        exact hk.2 h1.symm
      · exact hk.1.2 (by rw [List.map_append]; exact List.mem_append_right _ hm)

/-- What a reader of a tree leaves. -/
def RTreeEnd (b : Nat) (Y : RLoc) (E : PP.Env) (w : World) (R : PP.St → Tree → Prop) (r : Ending) (w' : World) : Prop :=
  ∃ v t σ', r = .returned v ∧ NodeV w' (w.heap.size ≤ ·) v t ∧ RS w' b Y E σ' ∧ Fr b w w' ∧ R σ' t
section
variable {w0 W W' : World} {Z : Nat → Prop} {b : Nat} {Y : RLoc} {E : PP.Env} {σ σ' : PP.St} {bl : List OwnB} {ks : List (Option Addr × List Tree)}
theorem RInv.done {w : World} (h : RInv w NoZ b Y E σ' bl ks W) {A : Option Addr} {kids : List Tree} (hm : (A, kids) ∈ ks) {R : PP.St → Tree → Prop} {k : Nat} {num : Int} {nm : List UInt8} {c : Nat} (hR : R σ' (.node k num nm kids)) :
    RTreeEnd b Y E w R (.returned (.agg #[.int .u8 (k : Int), .int .i64 num, .string ⟨nm.toArray⟩, .slice A kids.length c])) W :=
  ⟨_, _, σ', rfl, ⟨k, num, nm, A, c, kids, rfl, rfl, (h.ks _ hm).weak (fun _ hg _ => hg.1.resolve_left (fun h => h))⟩, h.ps, h.fr, hR⟩
theorem RInv.done0 {w : World} (h : RInv w NoZ b Y E σ' bl ks W) {R : PP.St → Tree → Prop} {k : Nat} {num : Int} {nm : List UInt8} {A : Option Addr} {c : Nat} (hR : R σ' (.node k num nm [])) :
    RTreeEnd b Y E w R (.returned (.agg #[.int .u8 (k : Int), .int .i64 num, .string ⟨nm.toArray⟩, .slice A 0 c])) W :=
  ⟨_, _, σ', rfl, ⟨k, num, nm, A, c, [], rfl, rfl, KidsC.nil _ _ _⟩, h.ps, h.fr, hR⟩
theorem rtree_inv {f : FuncId} {args : Array Value} {R : PP.St → Tree → Prop} (h : RInv w0 Z b Y E σ bl ks W) (hc : Calls Tryz.prog f args W (RTreeEnd b Y E W R)) :
    Calls Tryz.prog f args W fun r w' => ∃ k num nm A c kids σ', r = .returned (.agg #[.int .u8 ((k : Nat) : Int), .int .i64 num, .string ⟨(nm : List UInt8).toArray⟩, .slice A (kids : List Tree).length c]) ∧ RInv w0 Z b Y E σ' bl ((A, kids) :: ks) w' ∧ R σ' (.node k num nm kids) :=
  hc.mono fun r w' ⟨v, t, σ', hr, ⟨k, num, nm, A, c, kids, hv, ht, hk⟩, hp, hf, hR⟩ => ⟨k, num, nm, A, c, kids, σ', by rw [hr, hv], h.tree hp hf hk, ht ▸ hR⟩
theorem rwant_inv (s : ByteArray) (hs : s.data.toList ≠ []) (h : RInv w0 Z b Y E σ bl ks W) :
    Calls Tryz.prog 22 #[.pointer (some ⟨b, 0, none⟩), .string s] W fun r w' => r = .returned (.tuple #[]) ∧ RInv w0 Z b Y E (PP.require E σ s.data.toList) bl ks w' :=
  (rwant_any s hs W h.ps).mono fun _ _ ⟨h1, h2, h3⟩ => ⟨h1, h.call h2 h3⟩
theorem rnum_inv (low high : Int) (hh : high ≤ 2147483647) (h : RInv w0 Z b Y E σ bl ks W) :
    Calls Tryz.prog 49 #[.pointer (some ⟨b, 0, none⟩), .int .i64 low, .int .i64 high] W fun r w' => r = .returned (.int .i64 (PP.numP E σ low high).2) ∧ RInv w0 Z b Y E (PP.numP E σ low high).1 bl ks w' :=
  (rnum_any low high W hh h.ps).mono fun _ _ ⟨h1, h2, h3⟩ => ⟨h1, h.call h2 h3⟩
theorem rname_inv (h : RInv w0 Z b Y E σ bl ks W) :
    Calls Tryz.prog 48 #[.pointer (some ⟨b, 0, none⟩)] W fun r w' => r = .returned (.string ⟨(PP.nameP E σ).2.toArray⟩) ∧ RInv w0 Z b Y E (PP.nameP E σ).1 bl ks w' :=
  (rnm_any W h.ps).mono fun _ _ ⟨h1, h2, h3⟩ => ⟨h1, h.call h2 h3⟩
theorem rsee_inv (h : RInv w0 Z b Y E σ bl ks W) :
    Calls Tryz.prog 18 #[.pointer (some ⟨b, 0, none⟩)] W fun r w' => r = .returned (.agg (seenV E σ)) ∧ RInv w0 Z b Y E σ bl ks w' :=
  (rsee_any W h.ps).mono fun _ _ ⟨h1, h2⟩ => ⟨h1, h.call (h.ps.below h2) (Fr.of_below h2)⟩
theorem rskip_inv (hm : PP.more E σ = true) (h : RInv w0 Z b Y E σ bl ks W) :
    Calls Tryz.prog 20 #[.pointer (some ⟨b, 0, none⟩)] W fun r w' => r = .returned (.tuple #[]) ∧ RInv w0 Z b Y E (PP.adv σ) bl ks w' :=
  (rskip_any W h.ps hm).mono fun _ _ ⟨h1, h2, h3⟩ => ⟨h1, h.call h2 h3⟩
theorem rwrong_inv (h : RInv w0 Z b Y E σ bl ks W) :
    Calls Tryz.prog 50 #[.pointer (some ⟨b, 0, none⟩)] W fun r w' => r = .returned (.tuple #[]) ∧ RInv w0 Z b Y E (PP.reject E σ) bl ks w' :=
  (rwrong_any W h.ps).mono fun _ _ ⟨h1, h2, h3⟩ => ⟨h1, h.call h2 h3⟩
end
end Go.Proofs.YtglaecalbamnkaaGreatDoor
