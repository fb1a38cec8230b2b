/- ast.Walk's iterator and ast.Walk. -/
import Derived.Test.YtkeehpgnljieeaaDoorWkB
import Derived.Laws.EntriesVeiled
namespace Go.Proofs.YtkeehpgnljieeaaDoor
open Go.RowKit Go.Maps Go.Shelf
open PP (Tree)
section
set_option maxHeartbeats 2000000
set_option maxRecDepth 100000
attribute [local go_sem ↓] Go.wp_at_zero Go.wp_at_succ
variable {l B B0 R : Nat} {N : Nat} {J : List YArg → World → Prop}
theorem iter_any {W : World} {Z : Nat → Prop} (hZ : ¬ Z B) (hJ : AbidesFrom B0 J) (hY : Rounds l B N J (fun _ _ => False)) {A : Option Addr} {kids : List Tree} {k c : Nat} {num : Int} {nm : List UInt8} (h : KidsC W Z A kids)
    (hR : Blk W R 24 #[.int .u8 (k : Int), .int .i64 num, .string ⟨nm.toArray⟩, .slice A kids.length c]) (hB : B < W.heap.size) (hJ0 : J [] W) (hN : (Tree.node k num nm kids).size ≤ N) (hs : (Tree.node k num nm kids).size ≤ 1000000) (hd : (Tree.node k num nm kids).depth ≤ 1000000) :
    Calls Tryd.prog 17 #[.func (.yield l) #[] #[], .pointer (some ⟨R, 0, none⟩)] W (fun e W' => (∃ v, e = .returned v) ∧ ∃ xs : List YArg, xs.map (·.k) = kindsT (.node k num nm kids) ∧ J xs W') := by
  have HK := Lib.hid h
  have HR := Lib.hid hR
  have HJ0 := Lib.hid hJ0
  have HN := Lib.hid hN
  have HS := Lib.hid hs
  have HD := Lib.hid hd
  clear h hR hJ0 hN hs hd
  go_enter Tryd.func17, Tryd.ntmps17
  obtain ⟨r0, r1, r2, r3⟩ := ((HR.out.alloc (.cells #[.func (.yield l) #[] #[]] 47)).alloc (.cells #[.func (.func 18) #[] #[.pointer (some ⟨W.heap.size, 0, none⟩), .pointer (some ⟨W.heap.size + 1, 0, none⟩)]] 48)).four.1
  have hb3 : Below W.heap.size W (((W.alloc (.cells #[.func (.yield l) #[] #[]] 47)).alloc (.cells #[.func (.func 18) #[] #[.pointer (some ⟨W.heap.size, 0, none⟩), .pointer (some ⟨W.heap.size + 1, 0, none⟩)]] 48)).alloc (.cells #[] 3)) := ((((Below.refl _ W).alloc (Nat.le_refl _) _).alloc (by simp) _).alloc (by simp; omega) _)
  have hv : Blk (W.alloc (.cells #[.func (.yield l) #[] #[]] 47)) ((W.alloc (.cells #[.func (.yield l) #[] #[]] 47)).heap.size) tVw #[.func (.func 18) #[] #[.pointer (some ⟨W.heap.size, 0, none⟩), .pointer (some ⟨W.heap.size + 1, 0, none⟩)]] → True := fun _ => trivial
  have hz : (W.alloc (.cells #[.func (.yield l) #[] #[]] 47)).heap.size = W.heap.size + 1 := Array.size_push ..
  have hV : VBox l B W.heap.size (W.heap.size + 1) (((W.alloc (.cells #[.func (.yield l) #[] #[]] 47)).alloc (.cells #[.func (.func 18) #[] #[.pointer (some ⟨W.heap.size, 0, none⟩), .pointer (some ⟨W.heap.size + 1, 0, none⟩)]] 48)).alloc (.cells #[] 3)) := ⟨((Blk.new W _ _).alloc _).alloc _, by
    have h := (Blk.new (W.alloc (.cells #[.func (.yield l) #[] #[]] 47)) tVw #[.func (.func 18) #[] #[.pointer (some ⟨W.heap.size, 0, none⟩), .pointer (some ⟨W.heap.size + 1, 0, none⟩)]]).alloc (.cells #[] 3)
    rw [hz] at h
    exact h, by omega, by omega, Nat.lt_of_lt_of_le hB hb3.size⟩
  have HC := Lib.hid (visit_kids hZ hJ (fun _ _ => id) hY HK.out (((W.alloc (.cells #[.func (.yield l) #[] #[]] 47)).alloc (.cells #[.func (.func 18) #[] #[.pointer (some ⟨W.heap.size, 0, none⟩), .pointer (some ⟨W.heap.size + 1, 0, none⟩)]] 48)).alloc (.cells #[] 3)) (KpC.below hb3) hV k num nm c (.slice (some ⟨W.heap.size + 1 + 1, 0, none⟩) 0 0) 0 [] ⟨W.heap.size + 1 + 1, [], 0, rfl, Nat.le_refl _, rfl, by omega, by simp⟩ (by have := HD.out; omega) (abides_below hJ HJ0.out hb3) (by simpa using HN.out) HS.out)
  clear hb3 hv hz hV
  go_wp2_with (go_at_call 18; refine HC.out.mono ?_; rintro e w5 ⟨b5, rfl, h1, h2⟩; obtain rfl : b5 = true := (by cases b5 with | true => rfl | false => obtain ⟨q, hq⟩ := h2 rfl; exact hq.elim); obtain ⟨ys, hys, hjy, hky⟩ := h1 rfl)
  go_end0
  exact ⟨⟨_, rfl⟩, ys, hys, by simpa using hjy⟩
/-- What ast.Walk hands back: its iterator, over a copy of the tree. -/
def WalkEnd (k : Nat) (num : Int) (nm : List UInt8) (kids : List Tree) (W : World) (e : Ending) (W' : World) : Prop :=
  ∃ (R : Nat) (A' : Option Addr) (c' : Nat), e = .returned (.func (.func 17) #[] #[.pointer (some ⟨R, 0, none⟩)]) ∧ Blk W' R 24 #[.int .u8 (k : Int), .int .i64 num, .string ⟨nm.toArray⟩, .slice A' kids.length c'] ∧
    KidsC W' (W.heap.size ≤ ·) A' kids ∧ W.heap.size ≤ R ∧ Below W.heap.size W W'
theorem walk_any {W : World} {Z : Nat → Prop} {A : Option Addr} {kids : List Tree} (h : KidsC W Z A kids) (k : Nat) (num : Int) (nm : List UInt8) (c : Nat) (hs : PP.sizeL kids ≤ 1000000) :
    Calls Tryd.prog 8 #[.agg #[.int .u8 (k : Int), .int .i64 num, .string ⟨nm.toArray⟩, .slice A kids.length c]] W (WalkEnd k num nm kids W) := by
  have HK := Lib.hid h
  have HS := Lib.hid hs
  clear h hs
  go_enter Tryd.func8, Tryd.ntmps8
  generalize hw0 : W.alloc (.cells #[.int .u8 (k : Int), .int .i64 num, .string ⟨nm.toArray⟩, .slice A kids.length c] 24) = w0
  have hb0 : Below W.heap.size W w0 := by rw [← hw0]; exact (Below.refl _ _).alloc (Nat.le_refl _) _
  have hB : Blk w0 W.heap.size 24 #[.int .u8 (k : Int), .int .i64 num, .string ⟨nm.toArray⟩, .slice A kids.length c] := by rw [← hw0]; exact Blk.new _ _ _
  have HW0 := Lib.hid hw0
  clear hw0
  go_wp2_with fail
  rw [HW0.out]
  refine (clone_kids HK.out w0 ⟨hb0.size, fun g _ hlt => hb0.block g hlt⟩ k num nm c HS.out).mono ?_
  rintro e w2 ⟨A', c', rfl, hk2, hb2⟩
  have HB2 := Lib.hid hb2
  have HK2 := Lib.hid hk2
  have HB0 := Lib.hid hb0
  clear hb2 hk2 hb0 hB
  go_wp2_with fail
  go_ret
  have hb : Below W.heap.size W w2 := HB0.out.trans (HB2.out.mono HB0.out.size)
  exact ⟨w2.heap.size, A', c', rfl, Blk.new _ _ _, (HK2.out.keep ((Keep.refl _ _).alloc _)).weak (fun g hg _ => Nat.le_trans HB0.out.size hg), hb.size, hb.alloc hb.size _⟩
/-! A range over an iterator whose loop body is never left early. -/
def allPost {α : Type} (B : Nat) (Kp : World → World → Prop) (I : List α → World → Prop) (xs : List α) (W : World) : Exit → Act → World → Prop
  | .normal, _, W' => KeepsFrom B W W' ∧ Kp W W' ∧ I xs W'
  | _, _, _ => False
theorem range_all {α : Type} {n : Nat} {P : Program} {g : Operand} {ps : Array Tmp} {assign body : Code} {Q : Exit → Act → World → Prop} {a : Act} {w : World} {gf : Nat} {lb : Array Value}
    (hg : a.eval g = .func (.func gf) #[] lb) (eg : ∀ args w, (callFunc gf args).run P w = .ok (.enter gf args) w) {encs : α → Array Value} {Kp : World → World → Prop} {S : List α → Prop} {N : Nat}
    (hseq : ∀ (l : Nat) (J : List α → World → Prop) (W : World), Below w.heap.size w W → AbidesFrom W.heap.size J → (∀ m pre x W1, J pre W1 → pre.length < N → YieldAt Fence.wide m P l (encs x) W1 fun e W' => e = .returned (.bool true) ∧ J (pre ++ [x]) W' ∧ Kp W1 W') → J [] W →
      Calls P gf (#[.func (.yield l) #[] #[]] ++ lb) W fun e W' => (∃ v, e = .returned v) ∧ ∃ xs, S xs ∧ J xs W')
    (hKt : ∀ {A B C : World}, Kp A B → Kp B C → Kp A C) (hKb : ∀ (W : World) (l : Nat) (o o' : Obj), w.heap.size ≤ l → W.heap[l]? = some o → o.isCells = false → o.isWalk = false → Kp W (W.putObj l o')) (hps : ∀ x, (encs x).size = ps.size)
    (I : List α → World → Prop) (hI : OwnFrom w.heap.size I) (h0 : I [] w) (Ax : α → Act → World → Prop) (hAx : ∀ x a', OwnFrom w.heap.size (fun (_ : Unit) W => Ax x a' W))
    (hassign : ∀ (m l : Nat) (pre : List α) (x : α) (W : World) (K : Act → World → Prop), I pre W → (∀ a' W', KeepsFrom w.heap.size W W' → Kp W W' → I pre W' → Ax x a' W' → K a' W') →
      assign.wpIn (Fence.wide.inRound l) m P (Exit.then K (fun _ _ _ => False)) { tmps := (ps.zip (encs x)).foldl (fun t (p, v) => t.setIfInBounds p v) a.tmps, defers := [] } W)
    (hbody : ∀ (m l : Nat) (pre : List α) (x : α) (a' : Act) (W : World), I pre W → Ax x a' W → pre.length < N → body.wpIn (Fence.wide.inRound l) m P (allPost w.heap.size Kp I (pre ++ [x]) W) a' W)
    (hdone : ∀ (D : Nat) (xs : List α) (W : World), w.heap.size ≤ D → S xs → I xs W → W.heap[D]? = some (.deferred (some [])) → Q .normal { a with defers := { target := .collected D, args := #[] } :: a.defers } W) :
    (Code.rangeFunc g ps assign body).wpIn Fence.wide n P Q a w := by
  refine wpIn_rangeFunc ?_
  intro fn hfn
  rw [show Fence.wide.round = none from rfl]
  obtain ⟨rec, hrec⟩ : ∃ rec : LoopState → Option Code → Loop, rec = fun st pe => { state := st, pending := pe, fn, tmps := a.tmps, params := ps, assign, body, defers := w.heap.size } := ⟨_, rfl⟩
  have hL := World.alloc_heap_new (w.alloc (.deferred (some []))) (.loop (rec .ready none))
  rw [World.size_alloc] at hL
  have hD := (Below.heap_alloc (w.alloc (.deferred (some []))) (.loop (rec .ready none)) w.heap.size (by simp)).trans (World.alloc_heap_new w (.deferred (some [])))
  have hi0 := hI.alloc (.loop (rec .ready none)) (hI.alloc (.deferred (some [])) h0)
  have hb0 : Below w.heap.size w ((w.alloc (.deferred (some []))).alloc (.loop (rec .ready none))) := ((Below.refl _ w).alloc (Nat.le_refl _) _).alloc (by simp) _
  refine ⟨w.heap.size + 1, [{ target := .collected w.heap.size, args := #[] }], (w.alloc (.deferred (some []))).alloc (.loop (rec .ready none)), { target := .fn (.func gf) lb, args := #[.func (.yield (w.heap.size + 1)) #[] #[]] }, (w.alloc (.deferred (some []))).alloc (.loop (rec .ready none)), gf,
    #[.func (.yield (w.heap.size + 1)) #[] #[]] ++ lb, (w.alloc (.deferred (some []))).alloc (.loop (rec .ready none)), ?_, ?_, fun _ _ => trivial, ?_, (fun h => (by cases h)), ?_⟩
  · rw [hrec]; exact run_enterLoop_outer _ _ _ _ _
  · simp only [resolve, hg]
    simp [go_sem]
  · simp [invoke, go_sem, eg]
  generalize (w.alloc (.deferred (some []))).alloc (.loop (rec .ready none)) = W1 at hL hD hi0 hb0 ⊢
  refine callsIn_wide.2 ((hseq (w.heap.size + 1) (fun pre W => I pre W ∧ W.heap[w.heap.size + 1]? = some (.loop (rec .ready none)) ∧ W.heap[w.heap.size]? = some (.deferred (some []))) W1 hb0 ?_ ?_ ⟨hi0, hL, hD⟩).mono ?_)
  · intro s X Y row hs hg' hr
    have hc : ∀ r, row = some r → w.heap.size ≤ r ∧ ∃ o : Obj, X.heap[r]? = some o ∧ o.isCells = false := fun r e => by
      obtain ⟨h1, o, ho, hw⟩ := hr r e
      exact ⟨Nat.le_trans hb0.size h1, o, ho, Obj.not_cells_of_walk hw⟩
    exact ⟨hI s X Y row hs.1 hg' hc, (grownBy_keeps hg' (fun r e => (hr r e).2) hs.2.1 rfl).trans hs.2.1, (grownBy_keeps hg' (fun r e => (hr r e).2) hs.2.2 rfl).trans hs.2.2⟩
  · rintro m pre x W ⟨hi, hl, hk⟩ hlen
    have hy := run_yield (P := P) (args := encs x) hl (by rw [hrec]; exact hps x)
    rw [hrec] at hy
    refine ⟨fn, _, assign, body, hy, roundIn_of_wpIn hfn (hassign _ _ pre x W _ hi ?_)⟩
    intro a' Wa hkf hkp hia hax
    have hla := hkf.same _ _ (by omega) hl rfl
    have hka := hkf.same _ _ (Nat.le_refl _) hk rfl
    have hlt := (Array.getElem?_eq_some_iff.1 hla).1
    refine ⟨_, run_beginRound hla (by rw [hrec]), ?_⟩
    have hl2 : (Wa.putObj (w.heap.size + 1) (.loop { rec .ready none with state := .busy })).heap[w.heap.size + 1]? = some (.loop { rec .ready none with state := .busy }) := World.putObj_heap_same hlt
    have hk2 : (Wa.putObj (w.heap.size + 1) (.loop { rec .ready none with state := .busy })).heap[w.heap.size]? = some (.deferred (some [])) := (World.putObj_heap_other (by omega)).trans hka
    have hw2 : Kp Wa (Wa.putObj (w.heap.size + 1) (.loop { rec .ready none with state := .busy })) := hKb _ _ _ _ (by omega) hla rfl rfl
    refine wpIn_mono (hbody _ _ pre x a' _ (hI.putObj _ hia (by omega) hla rfl) ((hAx x a').putObj (s := ()) _ hax (by omega) hla rfl) hlen) ?_
    rintro e a3 W3 hp
    cases e with
    | normal =>
      obtain ⟨hk3, hkp3, hi3⟩ := hp
      have hl3 := hk3.same _ _ (by omega) hl2 rfl
      have hd3 := hk3.same _ _ (Nat.le_refl _) hk2 rfl
      have hr := run_endRound (P := P) none hl3
      rw [hrec] at hr hl3
      refine ⟨_, _, hr, rfl, ⟨hI.putObj _ hi3 (by omega) hl3 rfl, ?_, (World.putObj_heap_other (by omega)).trans hd3⟩, hKt hkp (hKt (hKt hw2 hkp3) (hKb _ _ _ _ (by omega) hl3 rfl rfl))⟩
      rw [hrec]
      exact World.putObj_heap_same (Array.getElem?_eq_some_iff.1 hl3).1
    | _ => exact hp.elim
  · rintro e W2 ⟨⟨v, rfl⟩, xs, hS, hi, hl, hk⟩
    refine ⟨none, _, by have := run_endLoop (P := P) hl (by rw [hrec]; simp); rw [hrec] at this; exact this, hdone _ xs _ (Nat.le_refl _) hS (hI.putObj _ hi (by omega) hl rfl) ((World.putObj_heap_other (by omega)).trans hk)⟩
end
end Go.Proofs.YtkeehpgnljieeaaDoor
