/- The reference's reader in memory, and the contracts of its smallest methods. -/
import Derived.Test.YtglaecalbamnkaaGreatDoorKF
import Derived.Test.YtglaecalbamnkaaGreatDoorRdN
namespace Go.Proofs.YtglaecalbamnkaaGreatDoor
open Go.RowKit Go.Maps

/-- Where the reader's tokens lie. -/
structure RLoc where
  g : Nat
  o : Nat
def rdCells (A : Option Addr) (n c : Nat) (E : PP.Env) (σ : PP.St) (pe : Nat) : Array Value := #[.slice A n c, .int .i64 (E.L : Int), .int .i64 (σ.err : Int), .int .i64 (pe : Int)]
/-- The reader at block b: k tokens are gone. -/
structure RSt (w : World) (b : Nat) (Y : RLoc) (E : PP.Env) (σ : PP.St) (k c pe : Nat) (A : Option Addr) : Prop where
  kle : k ≤ E.ts.length
  cap : E.ts.length - k ≤ c
  adr : k < E.ts.length → A = some ⟨Y.g, Y.o + k * 3, none⟩
  here : σ.err = 0 → k = σ.next
  pos : σ.err ≠ 0 → pe = σ.off
  blk : w.heap[b]? = some (.cells (rdCells A (E.ts.length - k) c E σ pe) 63 (0, 0))
structure RS (w : World) (b : Nat) (Y : RLoc) (E : PP.Env) (σ : PP.St) : Prop where
  st : ∃ k c pe A, RSt w b Y E σ k c pe A
  tok : ∀ i t, E.ts[i]? = some t → Y.g ≠ b ∧ Y.g < w.heap.size ∧ w.cell? ⟨Y.g, Y.o + i * 3, none⟩ = some (.int .u8 (t.kind : Int)) ∧ w.cell? ⟨Y.g, Y.o + i * 3 + 1, none⟩ = some (.string ⟨t.text.toArray⟩) ∧ w.cell? ⟨Y.g, Y.o + i * 3 + 2, none⟩ = some (.int .i64 (t.pos : Int))
  len : E.ts.length ≤ 65536
  txt : ∀ t ∈ E.ts, t.text.length ≤ 65536
  lt : b < w.heap.size
section
variable {w w' : World} {b : Nat} {Y : RLoc} {E : PP.Env} {σ σ' : PP.St} {k c pe : Nat} {A : Option Addr}
theorem RSt.cells (h : RSt w b Y E σ k c pe A) : w.cell? ⟨b, 0, none⟩ = some (.slice A (E.ts.length - k) c) ∧ w.cell? ⟨b, 1, none⟩ = some (.int .i64 (E.L : Int)) ∧ w.cell? ⟨b, 2, none⟩ = some (.int .i64 (σ.err : Int)) ∧ w.cell? ⟨b, 3, none⟩ = some (.int .i64 (pe : Int)) := by
  have hc := fun j => cell_of_row w b j (rdCells A (E.ts.length - k) c E σ pe) 63 (0, 0) h.blk
  exact ⟨hc 0, hc 1, hc 2, hc 3⟩
theorem RSt.frozen (h : RSt w b Y E σ k c pe A) (j : Nat) : w.frozen? ⟨b, j, none⟩ = false := frozen_of_row w b j (rdCells A (E.ts.length - k) c E σ pe) 63 h.blk
theorem RSt.keep (h : RSt w b Y E σ k c pe A) (hb : w'.heap[b]? = w.heap[b]?) : RSt w' b Y E σ k c pe A := ⟨h.kle, h.cap, h.adr, h.here, h.pos, hb.trans h.blk⟩
/-- All but the reader's block has stayed over a frame. -/
theorem RS.fr (h : RS w b Y E σ) (f : Fr b w w') (hs : ∃ k c pe A, RSt w' b Y E σ' k c pe A) : RS w' b Y E σ' := by
  refine ⟨hs, fun i t hi => ?_, h.len, h.txt, Nat.lt_of_lt_of_le h.lt f.size⟩
  obtain ⟨hg, hlt, h0, h1, h2⟩ := h.tok i t hi
  have hb := f.block Y.g hlt (by simpa using hg)
  exact ⟨hg, Nat.lt_of_lt_of_le hlt f.size, (World.cell?_of_block (a := ⟨Y.g, Y.o + i * 3, none⟩) hb).trans h0, (World.cell?_of_block (a := ⟨Y.g, Y.o + i * 3 + 1, none⟩) hb).trans h1, (World.cell?_of_block (a := ⟨Y.g, Y.o + i * 3 + 2, none⟩) hb).trans h2⟩
theorem RS.same (h : RS w b Y E σ) (f : Fr b w w') (hb : w'.heap[b]? = w.heap[b]?) : RS w' b Y E σ := by
  obtain ⟨k, c, pe, A, hs⟩ := h.st
  exact h.fr f ⟨k, c, pe, A, hs.keep hb⟩
theorem RS.below (h : RS w b Y E σ) (f : Below w.heap.size w w') : RS w' b Y E σ := h.same (Fr.of_below f) (f.block b h.lt)
theorem RS.alloc (h : RS w b Y E σ) (o : Obj) : RS (w.alloc o) b Y E σ := h.below ((Below.refl _ _).alloc (Nat.le_refl _) o)
theorem RS.drew (h : RS w b Y E σ) : RS w.drew b Y E σ := h.below (Below.refl _ _).drew
theorem RS.drewN (h : RS w b Y E σ) (n : Nat) : RS (w.drewN n) b Y E σ := h.below (below_drewN (Below.refl _ _) n)
/-- A store beyond the world in which the reader was known. -/
theorem RS.far {w0 : World} {σ0 : PP.St} (h0 : RS w0 b Y E σ0) (f : Fr b w0 w) (h : RS w b Y E σ) {p : Addr} (hp : w0.heap.size ≤ p.block) (v : Value) : RS (w.setCell p v) b Y E σ := by
  obtain ⟨k, c, pe, A, hs⟩ := h.st
  have hlt := h0.lt
  exact h0.fr (f.far hp v) ⟨k, c, pe, A, hs.keep (Below.heap_setCell w p v b (by omega))⟩
theorem RS.next (h : RS w b Y E σ) (he : σ.err = 0) : σ.next ≤ E.ts.length := by
  obtain ⟨k, c, pe, A, hs⟩ := h.st
  rw [← hs.here he]; exact hs.kle
/-- The token that comes next. -/
theorem RS.cur (h : RS w b Y E σ) {k c pe : Nat} {A : Option Addr} (hs : RSt w b Y E σ k c pe A) (hn : k < E.ts.length) : ∃ t, E.ts[k]? = some t ∧ A = some ⟨Y.g, Y.o + k * 3, none⟩ ∧ w.cell? ⟨Y.g, Y.o + k * 3, none⟩ = some (.int .u8 (t.kind : Int)) ∧ w.cell? ⟨Y.g, Y.o + k * 3 + 1, none⟩ = some (.string ⟨t.text.toArray⟩) ∧ w.cell? ⟨Y.g, Y.o + k * 3 + 2, none⟩ = some (.int .i64 (t.pos : Int)) := by
  obtain ⟨_, _, h0, h1, h2⟩ := h.tok k _ (List.getElem?_eq_getElem hn)
  exact ⟨_, List.getElem?_eq_getElem hn, hs.adr hn, h0, h1, h2⟩
theorem cur_of {t : PL.Tok} (hn : σ.next < E.ts.length) (h : E.ts[σ.next]? = some t) : PP.cur E σ = t := Option.some.inj ((PP.cur_at E hn).symm.trans h)
end
section
set_option maxHeartbeats 1000000
set_option maxRecDepth 100000
variable {b : Nat} {Y : RLoc} {E : PP.Env} {σ : PP.St}
theorem rfail_any (o e : Nat) (he0 : e ≠ 0) (w : World) (h : RS w b Y E σ) :
    Calls Tryz.prog 51 #[.pointer (some ⟨b, 0, none⟩), .int .i64 (o : Int), .int .i64 (e : Int)] w fun r w' => r = .returned (.tuple #[]) ∧ RS w' b Y E (PP.fail σ o e) ∧ Fr b w w' := by
  obtain ⟨k, c, pe, A, hs⟩ := h.st
  obtain ⟨_, _, c2, c3⟩ := hs.cells
  have f2 := hs.frozen 2
  have f3 := hs.frozen 3
  unfold PP.fail
  by_cases he : σ.err = 0
  · rw [if_pos he]
    have e1 : ((σ.err : Int) == 0) = true := by simp [he]
    have hP : RS ((w.setCell ⟨b, 2, none⟩ (.int .i64 (e : Int))).setCell ⟨b, 3, none⟩ (.int .i64 (o : Int))) b Y E ⟨σ.next, o, e⟩ := by
      have h1 := heap_setCell_same w b 2 (rdCells A (E.ts.length - k) c E σ pe) 63 (.int .i64 (e : Int)) hs.blk
      have h2 := heap_setCell_same (w.setCell ⟨b, 2, none⟩ (.int .i64 (e : Int))) b 3 _ 63 (.int .i64 (o : Int)) h1
      exact h.fr (((Fr.refl b w).set 2 _).set 3 _) ⟨k, c, o, A, hs.kle, hs.cap, hs.adr, fun e => absurd e he0, fun _ => rfl, by rw [h2]; rfl⟩
    have HP := Lib.hid hP
    clear h he hs hP he0
    go_enter Tryz.func51, Tryz.ntmps51
    go_wp2_with fail
    go_end0
    exact ⟨rfl, HP.out, ((Fr.refl b w).set 2 _).set 3 _⟩
  · rw [if_neg he]
    have e1 : ((σ.err : Int) == 0) = false := beq_eq_false_iff_ne.2 (by omega)
    have HP := Lib.hid h
    clear h he hs he0
    go_enter Tryz.func51, Tryz.ntmps51
    go_wp2_with fail
    go_end0
    exact ⟨rfl, HP.out, Fr.refl b w⟩
theorem sub_pos {n k : Nat} (h : k < n) : ((n - k : Nat) : Int) = 0 → False := by omega
/-- The end of a small method that hands back nothing. -/
theorem rat_any (w : World) (h : RS w b Y E σ) :
    Calls Tryz.prog 19 #[.pointer (some ⟨b, 0, none⟩)] w fun r w' => ∃ p : Nat, r = .returned (.int .i64 (p : Int)) ∧ (σ.err = 0 → p = PP.here E σ) ∧ w' = w := by
  obtain ⟨k, c, pe, A, hs⟩ := h.st
  obtain ⟨c0, c1, c2, c3⟩ := hs.cells
  by_cases hn : k < E.ts.length
  · obtain ⟨t, ht, hA, t0, t1, t2⟩ := h.cur hs hn
    subst hA
    have hhere : σ.err = 0 → t.pos = PP.here E σ := fun he => by
      have hk := hs.here he
      subst hk
      unfold PP.here
      rw [if_pos hn, cur_of hn ht]
    have e1 : (((E.ts.length - k : Nat) : Int) == 0) = false := beq_eq_false_iff_ne.2 (by omega)
    have p1 : (0 : Int) < ((E.ts.length - k : Nat) : Int) := by omega
    have HH := Lib.hid hhere
    generalize E.ts.length - k = m at *
    clear h hs ht hhere t0 t1 c1 c2 c3 hn
    go_enter Tryz.func19, Tryz.ntmps19
    go_wp2_with fail
    go_ret
    exact ⟨_, rfl, HH.out, rfl⟩
  · have hhere : σ.err = 0 → E.L = PP.here E σ := fun he => by
      have hk := hs.here he
      subst hk
      unfold PP.here
      rw [if_neg hn]
    have e0 : E.ts.length - k = 0 := by omega
    rw [e0] at c0
    have HH := Lib.hid hhere
    clear h hs hhere c2 c3 hn e0
    go_enter Tryz.func19, Tryz.ntmps19
    go_wp2_with fail
    go_ret
    exact ⟨_, rfl, HH.out, rfl⟩
/-- What the reader sees. -/
def seen (E : PP.Env) (σ : PP.St) : Nat × List UInt8 × Nat := if PP.more E σ then ((PP.cur E σ).kind, (PP.cur E σ).text, (PP.cur E σ).pos) else (0, [], 0)
def seenV (E : PP.Env) (σ : PP.St) : Array Value := #[.int .u8 ((seen E σ).1 : Int), .string ⟨(seen E σ).2.1.toArray⟩, .int .i64 ((seen E σ).2.2 : Int)]
theorem Blk.belowD {w w' : World} {g : Nat} {t : TypeId} {cs : Array Value} (h : Blk w g t cs) (hb : Below w.heap.size w w') : Blk w' g t cs := (hb.block g h.lt).trans h
theorem field_tok (a b c : Value) (w : World) : Sem.run Tryz.prog (Instr.field 58 (.agg #[a, b, c]) 1) w = .ok b w := by kernel_rfl
theorem Blk.st3 {w' : World} {g : Nat} {t : TypeId} {a0 a1 a2 : Value} (h : Blk w' g t #[a0, a1, a2]) (v0 v1 v2 : Value) : Blk (((w'.setCell ⟨g, 0, none⟩ v0).setCell ⟨g, 1, none⟩ v1).setCell ⟨g, 2, none⟩ v2) g t #[v0, v1, v2] := ((h.set_ 0 v0).set_ 1 v1).set_ 2 v2
theorem tok_result {fn : Func} {p : Tmp} (h : fn.results = #[.cell p 58]) {tmps : Array Value} {w : World} {g : Nat} {a0 a1 a2 : Value} (hp : tmps.getD p undef = .pointer (some ⟨g, 0, none⟩)) (hb : Blk w g 58 #[a0, a1, a2]) :
    (results fn tmps).run Tryz.prog w = .ok (.agg #[a0, a1, a2]) w :=
  results_cell_row h tmps w g 58 _ (0, 0) _ hp hb Tryz.underlying58 rfl (by kernel_rfl)
theorem rsee_any (w : World) (h : RS w b Y E σ) :
    Calls Tryz.prog 18 #[.pointer (some ⟨b, 0, none⟩)] w fun r w' => r = .returned (.agg (seenV E σ)) ∧ Below w.heap.size w w' := by
  obtain ⟨k, c, pe, A, hs⟩ := h.st
  have hb := (Below.refl w.heap.size w).alloc (Nat.le_refl _) (.cells #[.int .u8 0, .string ⟨#[]⟩, .int .i64 0] 58)
  have h' := h.alloc (.cells #[.int .u8 0, .string ⟨#[]⟩, .int .i64 0] 58)
  have hs' := hs.keep (hb.block b h.lt)
  have hR := Blk.new w 58 #[.int .u8 0, .string ⟨#[]⟩, .int .i64 0]
  obtain ⟨c0, c1, c2, c3⟩ := hs'.cells
  unfold seenV
  by_cases he : σ.err = 0
  · have e1 : ((σ.err : Int) != 0) = false := by simp [he]
    by_cases hn : k < E.ts.length
    · obtain ⟨t, ht, hA, t0, t1, t2⟩ := h'.cur hs' hn
      subst hA
      have hsee : seen E σ = (t.kind, t.text, t.pos) := by
        have hk := hs.here he
        subst hk
        unfold seen
        rw [show PP.more E σ = true from by simp [PP.more, he, hn], if_pos rfl, cur_of hn ht]
      rw [hsee]
      have e2 : (((E.ts.length - k : Nat) : Int) == 0) = false := beq_eq_false_iff_ne.2 (by omega)
      have p1 : (0 : Int) < ((E.ts.length - k : Nat) : Int) := by omega
      generalize E.ts.length - k = m at *
      clear h hs h' hs' ht hsee c1 c3 hn he hb hR
      go_enter Tryz.func18, Tryz.ntmps18
      go_wp2_with fail
      exact bodyPost_ret (tok_result rfl rfl (Blk.new _ _ _)) rfl ⟨rfl, (Below.refl _ _).alloc (Nat.le_refl _) _⟩
    · have hsee : seen E σ = (0, [], 0) := by
        have hk := hs.here he
        subst hk
        unfold seen
        rw [show PP.more E σ = false from by simp [PP.more, hn], if_neg (by decide)]
      rw [hsee]
      have e0 : E.ts.length - k = 0 := by omega
      rw [e0] at c0
      clear h hs h' hs' hsee c1 c3 hn he hb hR e0
      go_enter Tryz.func18, Tryz.ntmps18
      go_wp2_with fail
      exact bodyPost_ret (tok_result rfl rfl (Blk.new _ _ _)) rfl ⟨rfl, (Below.refl _ _).alloc (Nat.le_refl _) _⟩
  · have e1 : ((σ.err : Int) != 0) = true := by simp; omega
    have hsee : seen E σ = (0, [], 0) := by
      unfold seen
      rw [show PP.more E σ = false from by simp [PP.more, he], if_neg (by decide)]
    rw [hsee]
    clear h hs h' hs' hsee c1 c3 c0 he hb hR
    go_enter Tryz.func18, Tryz.ntmps18
    go_wp2_with fail
    exact bodyPost_ret (tok_result rfl rfl (Blk.new _ _ _)) rfl ⟨rfl, (Below.refl _ _).alloc (Nat.le_refl _) _⟩
theorem rwrong_any (w : World) (h : RS w b Y E σ) :
    Calls Tryz.prog 50 #[.pointer (some ⟨b, 0, none⟩)] w fun r w' => r = .returned (.tuple #[]) ∧ RS w' b Y E (PP.reject E σ) ∧ Fr b w w' := by
  obtain ⟨k, c, pe, A, hs⟩ := h.st
  obtain ⟨c0, c1, c2, c3⟩ := hs.cells
  by_cases hn : k < E.ts.length
  · obtain ⟨t, ht, hA, t0, t1, t2⟩ := h.cur hs hn
    subst hA
    have hrej : PP.fail σ t.pos 3 = PP.reject E σ := by
      by_cases he : σ.err = 0
      · have hk := hs.here he
        subst hk
        unfold PP.reject PP.here
        rw [if_pos hn, if_pos hn, cur_of hn ht]
      · unfold PP.reject PP.fail
        rw [if_neg he, if_neg he, if_neg he]
        split <;> rfl
    have HF := Lib.hid (hrej ▸ rfail_any t.pos 3 (by decide) w h)
    have e1 : (((E.ts.length - k : Nat) : Int) == 0) = false := beq_eq_false_iff_ne.2 (by omega)
    have p1 : (0 : Int) < ((E.ts.length - k : Nat) : Int) := by omega
    generalize E.ts.length - k = m at *
    clear h hs ht hrej t0 t1 c1 c2 c3 hn
    go_enter Tryz.func50, Tryz.ntmps50
    go_wp2_with fail
    refine HF.out.mono ?_
    rintro e w1 ⟨rfl, hp, hf⟩
    go_wp2_with fail
    go_end0
    exact ⟨rfl, hp, hf⟩
  · have hrej : PP.fail σ E.L 4 = PP.reject E σ := by
      by_cases he : σ.err = 0
      · have hk := hs.here he
        subst hk
        unfold PP.reject PP.here
        rw [if_neg hn, if_neg hn]
      · unfold PP.reject PP.fail
        rw [if_neg he, if_neg he, if_neg he]
        split <;> rfl
    have HF := Lib.hid (hrej ▸ rfail_any E.L 4 (by decide) w h)
    have e0 : E.ts.length - k = 0 := by omega
    rw [e0] at c0
    clear h hs hrej c2 c3 hn e0
    go_enter Tryz.func50, Tryz.ntmps50
    go_wp2_with fail
    refine HF.out.mono ?_
    rintro e w1 ⟨rfl, hp, hf⟩
    go_wp2_with fail
    go_end0
    exact ⟨rfl, hp, hf⟩
theorem rskip_any (w : World) (h : RS w b Y E σ) (hm : PP.more E σ = true) :
    Calls Tryz.prog 20 #[.pointer (some ⟨b, 0, none⟩)] w fun r w' => r = .returned (.tuple #[]) ∧ RS w' b Y E (PP.adv σ) ∧ Fr b w w' := by
  obtain ⟨k, c, pe, A, hs⟩ := h.st
  obtain ⟨c0, c1, c2, c3⟩ := hs.cells
  obtain ⟨he, hlt⟩ := PP.more_err E hm
  have hk := hs.here he
  subst hk
  have f0 := hs.frozen 0
  have hA := hs.adr hlt
  have hcap := hs.cap
  have e1 : ((σ.err : Int) == 0) = true := by simp [he]
  have e2 : decide ((0 : Int) < ((E.ts.length - σ.next : Nat) : Int)) = true := by simp; omega
  have hP : ∀ A', (σ.next + 1 < E.ts.length → A' = some ⟨Y.g, Y.o + (σ.next + 1) * 3, none⟩) → RS (w.setCell ⟨b, 0, none⟩ (.slice A' (E.ts.length - σ.next - 1) (c - 1))) b Y E (PP.adv σ) := fun A' hA' => by
    have h1 := heap_setCell_same w b 0 (rdCells A (E.ts.length - σ.next) c E σ pe) 63 (.slice A' (E.ts.length - σ.next - 1) (c - 1)) hs.blk
    exact h.fr ((Fr.refl b w).set 0 _) ⟨σ.next + 1, c - 1, pe, A', hlt, by omega, hA', fun _ => rfl, fun e => absurd he e, by rw [h1]; rfl⟩
  subst hA
  have HP := Lib.hid hP
  have p1 : (1 : Int) ≤ ((E.ts.length - σ.next : Nat) : Int) := by omega
  have hlen := h.len
  have HLT := Lib.hid hlt
  have HCAP := Lib.hid hcap
  generalize hm' : E.ts.length - σ.next = m at *
  have HM' := Lib.hid hm'
  clear h hs hP hm hm' hlt hcap c1 c3
  by_cases hc1 : c = 1
  · subst hc1
    go_enter Tryz.func20, Tryz.ntmps20
    go_wp2_with fail
    go_end0
    exact ⟨rfl, HP.out _ (fun h => by have := HCAP.out; have := HM'.out; omega), (Fr.refl b w).set 0 _⟩
  · go_enter Tryz.func20, Tryz.ntmps20
    go_wp2_with fail
    go_end0
    exact ⟨rfl, HP.out _ (fun _ => by rw [show Y.o + (σ.next + 1) * 3 = Y.o + σ.next * 3 + 3 from by omega]), (Fr.refl b w).set 0 _⟩
end
end Go.Proofs.YtglaecalbamnkaaGreatDoor
