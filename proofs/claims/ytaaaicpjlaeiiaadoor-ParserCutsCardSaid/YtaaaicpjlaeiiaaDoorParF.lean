/- The contracts of the parser's place and primary, from that of its expression. -/
import Derived.Test.YtaaaicpjlaeiiaaDoorParE
import Derived.Test.YtaaaicpjlaeiiaaDoorTree
namespace Go.Proofs.YtaaaicpjlaeiiaaDoor
open Go.RowKit Go.Maps
open PP (Tree)

/-- All that the parser reads beside its own block: the tables and its map. -/
structure Gx (w : World) (b : Nat) (X : Loc) : Prop where
  gl : Gl w b
  ops : OpsIs w
  one : 0 ≠ b
  map : MapAt w X.m
  mne : X.m ≠ b
theorem Gx.fr {w w' : World} {b : Nat} {X : Loc} (h : Gx w b X) (k : Fr b w w') : Gx w' b X := by
  obtain ⟨t, fr, hb⟩ := h.ops
  have hlt : 0 < w.heap.size := (Array.getElem?_eq_some_iff.1 hb).1
  exact ⟨h.gl.fr k, ⟨t, fr, (k.block _ hlt (by simpa using h.one)).trans hb⟩, h.one, World.ownsMap.kept h.map k (by simpa using h.mne), h.mne⟩
/-- A block that is known whole. -/
def Blk (w : World) (g : Nat) (t : TypeId) (cs : Array Value) : Prop := w.heap[g]? = some (.cells cs t (0, 0))
section
variable {w w' : World} {b g : Nat} {t : TypeId} {cs : Array Value}
theorem Blk.lt (h : Blk w g t cs) : g < w.heap.size := (Array.getElem?_eq_some_iff.1 h).1
theorem Blk.cell (h : Blk w g t cs) (i : Nat) : w.cell? ⟨g, i, none⟩ = cs[i]? := cell_of_row w g i cs t (0, 0) h
theorem Blk.frozen (h : Blk w g t cs) (i : Nat) : w.frozen? ⟨g, i, none⟩ = false := frozen_of_row w g i cs t h
theorem Blk.new (w : World) (t : TypeId) (cs : Array Value) : Blk (w.alloc (.cells cs t)) w.heap.size t cs := heap_alloc_new w _
theorem Blk.fr (h : Blk w g t cs) (k : Fr b w w') (hg : g ≠ b) : Blk w' g t cs := (k.block g h.lt (by simpa using hg)).trans h
theorem Blk.alloc (h : Blk w g t cs) (o : Obj) : Blk (w.alloc o) g t cs := (Below.heap_alloc w o g h.lt).trans h
theorem Blk.drewN (h : Blk w g t cs) (n : Nat) : Blk (w.drewN n) g t cs := h
theorem Blk.set_ (h : Blk w g t cs) (i : Nat) (u : Value) : Blk (w.setCell ⟨g, i, none⟩ u) g t (cs.setIfInBounds i u) := heap_setCell_same w g i cs t u h
theorem Blk.far (h : Blk w g t cs) {p : Addr} (hp : g ≠ p.block) (u : Value) : Blk (w.setCell p u) g t cs := (Below.heap_setCell w p u g hp).trans h
theorem Blk.four {a0 a1 a2 a3 : Value} (h : Blk w g t #[a0, a1, a2, a3]) : (w.cell? ⟨g, 0, none⟩ = some a0 ∧ w.cell? ⟨g, 1, none⟩ = some a1 ∧ w.cell? ⟨g, 2, none⟩ = some a2 ∧ w.cell? ⟨g, 3, none⟩ = some a3) ∧
    (w.frozen? ⟨g, 0, none⟩ = false ∧ w.frozen? ⟨g, 1, none⟩ = false ∧ w.frozen? ⟨g, 2, none⟩ = false ∧ w.frozen? ⟨g, 3, none⟩ = false) :=
  ⟨⟨h.cell 0, h.cell 1, h.cell 2, h.cell 3⟩, h.frozen 0, h.frozen 1, h.frozen 2, h.frozen 3⟩
end

theorem Fr.far {b : Nat} {w w' : World} (h : Fr b w w') {p : Addr} (hp : w.heap.size ≤ p.block) (v : Value) : Fr b w (w'.setCell p v) :=
  ⟨h.os, h.tape, h.output, by simpa [World.setCell] using h.size, fun i hi hn => (Below.heap_setCell w' p v i (by omega)).trans (h.block i hi hn)⟩
/-- A store into a block that the call itself made. -/
theorem PS.far {w w' : World} {b : Nat} {X : Loc} {E : PP.Env} {σ σ' : PP.St} (h : PS w b X E σ) (k : Fr b w w') (h' : PS w' b X E σ') {p : Addr} (hp : w.heap.size ≤ p.block) (v : Value) : PS (w'.setCell p v) b X E σ' :=
  h.fr (k.far hp v) ((Below.heap_setCell w' p v b (by have := h.lt; omega)).trans h'.blk) h'.next
theorem Blk.st4 {w' : World} {g : Nat} {t : TypeId} {a0 a1 a2 a3 : Value} (h : Blk w' g t #[a0, a1, a2, a3]) (v0 v1 v2 v3 : Value) : Blk ((((w'.setCell ⟨g, 0, none⟩ v0).setCell ⟨g, 1, none⟩ v1).setCell ⟨g, 2, none⟩ v2).setCell ⟨g, 3, none⟩ v3) g t #[v0, v1, v2, v3] := (((h.set_ 0 v0).set_ 1 v1).set_ 2 v2).set_ 3 v3
theorem Fr.st4 {b g : Nat} {w w' : World} (h : Fr b w w') (hp : w.heap.size ≤ g) (v0 v1 v2 v3 : Value) : Fr b w ((((w'.setCell ⟨g, 0, none⟩ v0).setCell ⟨g, 1, none⟩ v1).setCell ⟨g, 2, none⟩ v2).setCell ⟨g, 3, none⟩ v3) := (((h.far hp v0).far hp v1).far hp v2).far hp v3
theorem PS.st4 {w w' : World} {b g : Nat} {X : Loc} {E : PP.Env} {σ σ' : PP.St} (h : PS w b X E σ) (k : Fr b w w') (h' : PS w' b X E σ') (hp : w.heap.size ≤ g) (v0 v1 v2 v3 : Value) : PS ((((w'.setCell ⟨g, 0, none⟩ v0).setCell ⟨g, 1, none⟩ v1).setCell ⟨g, 2, none⟩ v2).setCell ⟨g, 3, none⟩ v3) b X E σ' :=
  h.far (((k.far hp v0).far hp v1).far hp v2) (h.far ((k.far hp v0).far hp v1) (h.far (k.far hp v0) (h.far k h' hp v0) hp v1) hp v2) hp v3
theorem Keep.st4 {Z : Nat → Prop} {w w' : World} {g : Nat} (h : Keep Z w w') (hp : ¬ Z g) (v0 v1 v2 v3 : Value) : Keep Z w ((((w'.setCell ⟨g, 0, none⟩ v0).setCell ⟨g, 1, none⟩ v1).setCell ⟨g, 2, none⟩ v2).setCell ⟨g, 3, none⟩ v3) := (((h.set (p := ⟨g, 0, none⟩) hp v0).set (p := ⟨g, 1, none⟩) hp v1).set (p := ⟨g, 2, none⟩) hp v2).set (p := ⟨g, 3, none⟩) hp v3
/-- The result of a call that hands a node back lies in a block of its own. -/
theorem node_result {fn : Func} {p : Tmp} (h : fn.results = #[.cell p 24]) {tmps : Array Value} {w : World} {g : Nat} {a0 a1 a2 a3 : Value} (hp : tmps.getD p undef = .pointer (some ⟨g, 0, none⟩)) (hb : Blk w g 24 #[a0, a1, a2, a3]) :
    (results fn tmps).run Tryd.prog w = .ok (.agg #[a0, a1, a2, a3]) w :=
  results_cell_row h tmps w g 24 _ (0, 0) _ hp hb Tryd.underlying24 rfl (by kernel_rfl)
/-- What a call that reads a tree leaves. -/
def TreeEnd (b : Nat) (X : Loc) (E : PP.Env) (σ : PP.St) (w : World) (R : PP.St → Tree → Prop) (r : Ending) (w' : World) : Prop :=
  ∃ v t σ', r = .returned v ∧ NodeV w' (w.heap.size ≤ ·) v t ∧ PS w' b X E σ' ∧ Fr b w w' ∧ R σ' t ∧ σ.next ≤ σ'.next
theorem next_reject (E : PP.Env) (σ : PP.St) : (PP.reject E σ).next = σ.next := by unfold PP.reject PP.fail; repeat' split
                                                                                   all_goals rfl
theorem next_nameP (E : PP.Env) (σ : PP.St) : σ.next ≤ (PP.nameP E σ).1.next := by
  unfold PP.nameP; split
  · simp [PP.adv]
  · rw [next_reject]; exact Nat.le_refl _
theorem next_require (E : PP.Env) (σ : PP.St) (t : List UInt8) : σ.next ≤ (PP.require E σ t).next := by
  unfold PP.require; split
  · simp [PP.adv]
  · rw [next_reject]; exact Nat.le_refl _

section
set_option maxHeartbeats 800000
set_option maxRecDepth 100000
variable {b : Nat} {X : Loc} {E : PP.Env} {σ : PP.St}
theorem place_any (w : World) (hg : Gx w b X) (h : PS w b X E σ)
    (IH : ∀ σ' w', Gx w' b X → PS w' b X E σ' → σ.next < σ'.next → Calls Tryd.prog 61 #[.pointer (some ⟨b, 0, none⟩)] w' (TreeEnd b X E σ' w' fun σ'' t => ∃ n, PP.binary E n 0 σ' = some (σ'', t))) :
    Calls Tryd.prog 144 #[.pointer (some ⟨b, 0, none⟩)] w (TreeEnd b X E σ w fun σ' t => ∃ n, PP.place E n σ = some (σ', t)) := by
  have hbl := h.lt
  have HI := Lib.hid IH
  clear IH
  have hz : Blk (w.alloc (.cells #[.int .u8 0, .int .i64 0, .string ⟨#[]⟩, .slice none 0 0] 24)) w.heap.size 24 #[.int .u8 0, .int .i64 0, .string ⟨#[]⟩, .slice none 0 0] := Blk.new _ _ _
  have h0 := h.alloc (.cells #[.int .u8 0, .int .i64 0, .string ⟨#[]⟩, .slice none 0 0] 24)
  have hf0 := (Fr.refl b w).alloc (.cells #[.int .u8 0, .int .i64 0, .string ⟨#[]⟩, .slice none 0 0] 24)
  have hg0 := hg.fr hf0
  have HN := Lib.hid (nameP_any _ hg0.gl h0)
  have hpl := next_nameP E σ
  generalize hnm : PP.nameP E σ = q at *
  obtain ⟨σ1, nm⟩ := q
  have HNM := Lib.hid hnm
  clear hnm
  simp only [] at HN hpl
  have HZ := Lib.hid hz
  have H0 := Lib.hid h
  have H00 := Lib.hid hg
  have HF0 := Lib.hid hf0
  have HG0 := Lib.hid hg0
  clear hz h0 hf0 hg0 h hg
  go_enter Tryd.func144, Tryd.ntmps144
  go_wp2_with fail
  refine HN.out.mono ?_
  rintro e w1 ⟨rfl, h1, hf1⟩
  have hz1 := HZ.out.fr hf1 (by omega)
  have hF1 := HF0.out.trans hf1
  have hg1 := HG0.out.fr hf1
  go_wp2_with fail
  generalize hW2 : w1.alloc (.cells #[.int .u8 2, .int .i64 0, .string ⟨nm.toArray⟩, .slice none 0 0] 24) = w2
  have h2 : PS w2 b X E σ1 := by rw [← hW2]; exact h1.alloc _
  have hF2 : Fr b w w2 := by rw [← hW2]; exact hF1.alloc _
  have hg2 : Gx w2 b X := by rw [← hW2]; exact hg1.fr ((Fr.refl b w1).alloc _)
  have hzR : Blk w2 w.heap.size 24 #[.int .u8 0, .int .i64 0, .string ⟨#[]⟩, .slice none 0 0] := by rw [← hW2]; exact hz1.alloc _
  have hzN : Blk w2 w1.heap.size 24 #[.int .u8 2, .int .i64 0, .string ⟨nm.toArray⟩, .slice none 0 0] := by rw [← hW2]; exact Blk.new _ _ _
  have hRN : w.heap.size < w1.heap.size := hz1.lt
  clear hW2 HN HZ HF0 HG0 h1 hz1 hF1 hg1 hf1
  generalize w1.heap.size = N at *
  have hs := sees_any ⟨#[91]⟩ w2 h2
  rw [show (⟨#[91]⟩ : ByteArray).data.toList = [91] from rfl] at hs
  cases hse : PP.sees E σ1 [91] with
  | false =>
    rw [hse] at hs
    have hfin : PP.place E 1 σ = some (σ1, .node 2 0 nm []) := by rw [PP.place, HNM.out]; simp only [hse]; rfl
    have HS := Lib.hid hs
    have HFIN := Lib.hid hfin
    clear hs hse hfin
    refine HS.out.mono ?_
    rintro e w3 ⟨rfl, n3, rfl⟩
    obtain ⟨⟨r0, r1, r2, r3⟩, q0, q1, q2, q3⟩ := hzR.four
    obtain ⟨⟨s0, s1, s2, s3⟩, _, _, _, _⟩ := hzN.four
    have hp3 := h2.drewN n3
    have hf3 := hF2.drewN n3
    have Q := Lib.hid (fun v0 v1 v2 v3 => H0.out.st4 hf3 hp3 (Nat.le_refl _) v0 v1 v2 v3)
    have QF := Lib.hid (fun v0 v1 v2 v3 => hf3.st4 (Nat.le_refl _) v0 v1 v2 v3)
    have QB := Lib.hid (fun v0 v1 v2 v3 => (hzR.drewN n3).st4 v0 v1 v2 v3)
    clear h2 hF2 hg2 hzR hzN HI hp3 hf3
    go_wp2_with fail
    refine bodyPost_ret (node_result rfl rfl (QB.out _ _ _ _)) rfl ?_
    exact ⟨_, _, σ1, rfl, NodeV.leaf _ _ 2 0 nm, Q.out _ _ _ _, QF.out _ _ _ _, ⟨1, HFIN.out⟩, hpl⟩
  | true =>
    rw [hse] at hs
    have hn1 : σ1.next < E.ts.length := by
      unfold PP.sees at hse
      rcases PP.more_cases E σ1 with ⟨_, _, h3⟩ | ⟨h1, _⟩ | ⟨h1, _, _⟩
      · exact h3
      · rw [h1] at hse; cases hse
      · rw [h1] at hse; cases hse
    have hlen := h2.len
    have hfin : ∀ n r, PP.binary E n 0 (PP.adv σ1) = some r → PP.place E (n + 1) σ = some (PP.require E r.1 [93], .node 3 0 nm [r.2]) := by
      intro n r hr
      rw [PP.place, HNM.out]; simp only [hse, hr]; rfl
    have HS := Lib.hid hs
    have HFIN := Lib.hid hfin
    clear hs hse hfin
    refine HS.out.mono ?_
    rintro e w3 ⟨rfl, n3, rfl⟩
    have h3 := (h2.drewN n3).setNext (σ1.next + 1) (by omega)
    have hF3 := (hF2.drewN n3).set 1 (.int .i64 ((σ1.next : Int) + 1))
    have hzN3 := ((hzN.drewN n3).far (p := ⟨b, 1, none⟩) (by show N ≠ b; omega) (.int .i64 ((σ1.next : Int) + 1))).set_ 0 (.int .u8 3)
    have hzR3 := ((hzR.drewN n3).far (p := ⟨b, 1, none⟩) (by show w.heap.size ≠ b; omega) (.int .i64 ((σ1.next : Int) + 1))).far (p := ⟨N, 0, none⟩) (by show w.heap.size ≠ N; omega) (.int .u8 3)
    have h4 := H0.out.far hF3 h3 (p := ⟨N, 0, none⟩) (by show w.heap.size ≤ N; omega) (.int .u8 3)
    have hF4 := hF3.far (p := ⟨N, 0, none⟩) (by show w.heap.size ≤ N; omega) (.int .u8 3)
    obtain ⟨_, c1, _, _, _, _⟩ := h2.cells
    have f1 := h2.frozen 1
    obtain ⟨⟨s0, s1, s2, s3⟩, p0, p1, p2, p3⟩ := hzN.four
    have hg4 := H00.out.fr hF4
    have HH4 := Lib.hid h4
    have HHF4 := Lib.hid hF4
    have HG4 := Lib.hid hg4
    have HZN := Lib.hid hzN3
    have HZR := Lib.hid hzR3
    have hNb : N ≠ b := by omega
    have hbN : b ≠ N := by omega
    clear h2 hF2 hg2 hzR hzN h3 hF3 hzN3 hzR3 h4 hF4 hg4
    go_wp2_with fail
    refine (HI.out _ _ HG4.out HH4.out (by show σ.next < σ1.next + 1; omega)).mono ?_
    rintro e w5 ⟨v5, t5, σ5, rfl, hN5, h5, hf5, ⟨n5, hr5⟩, hn5⟩
    obtain ⟨k5, num5, nm5, A5, c5, kids5, rfl, rfl, hk5⟩ := hN5
    have hF5 := HHF4.out.trans hf5
    have hzN5 := HZN.out.fr hf5 (by omega)
    have hzR5 := HZR.out.fr hf5 (by omega)
    have hsz5 : N < w5.heap.size := hzN5.lt
    have HR5 := Lib.hid hr5
    have hk5' : KidsC w5 (fun g => w.heap.size ≤ g ∧ g ≠ w.heap.size ∧ g ≠ N) A5 kids5 := hk5.weak (fun g hg _ => by
      have h1 : (((w2.drewN n3).setCell ⟨b, 1, none⟩ (.int .i64 ((σ1.next : Int) + 1))).setCell ⟨N, 0, none⟩ (.int .u8 3)).heap.size ≤ g := hg
      have h2 : N < (((w2.drewN n3).setCell ⟨b, 1, none⟩ (.int .i64 ((σ1.next : Int) + 1))).setCell ⟨N, 0, none⟩ (.int .u8 3)).heap.size := HZN.out.lt
      omega)
    have hkA := kids_one (Z := fun g => w.heap.size ≤ g ∧ g ≠ w.heap.size ∧ g ≠ N) (k := k5) (num := num5) (nm := nm5) (c := c5) ⟨by omega, by omega, by omega⟩ hk5' 24
    have HKA := Lib.hid hkA
    have h6 := h5.alloc (.cells #[.int .u8 (k5 : Int), .int .i64 num5, .string ⟨nm5.toArray⟩, .slice A5 kids5.length c5] 24)
    have hF6 := hF5.alloc (.cells #[.int .u8 (k5 : Int), .int .i64 num5, .string ⟨nm5.toArray⟩, .slice A5 kids5.length c5] 24)
    have hzN6 := hzN5.alloc (.cells #[.int .u8 (k5 : Int), .int .i64 num5, .string ⟨nm5.toArray⟩, .slice A5 kids5.length c5] 24)
    have hzR6 := hzR5.alloc (.cells #[.int .u8 (k5 : Int), .int .i64 num5, .string ⟨nm5.toArray⟩, .slice A5 kids5.length c5] 24)
    have x3 : w5.cell? ⟨N, 3, none⟩ = some (.slice none 0 0) := hzN5.cell 3
    have y3 : w5.frozen? ⟨N, 3, none⟩ = false := hzN5.frozen 3
    clear hk5 hk5' hkA hr5 HH4 HHF4 HG4 HZN HZR hzN5 hzR5 s0 s1 s2 s3 p0 p1 p2 p3 c1 f1
    go_wp2_with fail
    have h7 := H0.out.far hF6 h6 (p := ⟨N, 3, none⟩) (by show w.heap.size ≤ N; omega) (.slice (some ⟨w5.heap.size, 0, none⟩) 1 1)
    have hF7 := hF6.far (p := ⟨N, 3, none⟩) (by show w.heap.size ≤ N; omega) (.slice (some ⟨w5.heap.size, 0, none⟩) 1 1)
    have hzN7 := hzN6.set_ 3 (.slice (some ⟨w5.heap.size, 0, none⟩) 1 1)
    have hzR7 := hzR6.far (p := ⟨N, 3, none⟩) (by show w.heap.size ≠ N; omega) (.slice (some ⟨w5.heap.size, 0, none⟩) 1 1)
    have hk7 := HKA.out.keep ((Keep.refl _ _).set (p := ⟨N, 3, none⟩) (by intro h; exact h.2.2 rfl) (.slice (some ⟨w5.heap.size, 0, none⟩) 1 1))
    have hcomm := World.setCell_alloc_past (w := w5) (.cells #[.int .u8 (k5 : Int), .int .i64 num5, .string ⟨nm5.toArray⟩, .slice A5 kids5.length c5] 24) N 3 (.slice (some ⟨w5.heap.size, 0, none⟩) 1 1) hsz5
    rw [hcomm] at h7 hF7 hzN7 hzR7 hk7
    clear hcomm
    refine (require_any ⟨#[93]⟩ _ h7).mono ?_
    rintro e w8 ⟨rfl, h8, hf8⟩
    have hF8 := hF7.trans hf8
    have hzN8 := hzN7.fr hf8 (by omega)
    have hzR8 := hzR7.fr hf8 (by omega)
    have hk8 := hk7.keep ((Keep.refl _ _).fr hf8 (by intro h; omega))
    obtain ⟨⟨r0, r1, r2, r3⟩, q0, q1, q2, q3⟩ := hzR8.four
    have hzN8' : Blk w8 N 24 #[.int .u8 3, .int .i64 0, .string ⟨nm.toArray⟩, .slice (some ⟨w5.heap.size, 0, none⟩) 1 1] := hzN8
    obtain ⟨⟨s0, s1, s2, s3⟩, _, _, _, _⟩ := hzN8'.four
    have Q := Lib.hid (fun v0 v1 v2 v3 => H0.out.st4 hF8 h8 (Nat.le_refl _) v0 v1 v2 v3)
    have QF := Lib.hid (fun v0 v1 v2 v3 => hF8.st4 (Nat.le_refl _) v0 v1 v2 v3)
    have QB := Lib.hid (fun v0 v1 v2 v3 => hzR8.st4 v0 v1 v2 v3)
    have QK := Lib.hid (fun v0 v1 v2 v3 => (hk8.keep ((Keep.refl _ _).st4 (g := w.heap.size) (by intro h; exact h.2.1 rfl) v0 v1 v2 v3)).weak (Z' := (w.heap.size ≤ ·)) (fun g hg _ => hg.1))
    have hpl2 := Nat.le_trans hn5 (next_require E σ5 [93])
    have hpl3 : σ.next ≤ (PP.require E σ5 [93]).next := by
      have h9 : σ1.next + 1 ≤ (PP.require E σ5 [93]).next := hpl2
      omega
    clear h7 hF7 hzN7 hzR7 hk7 h8 hf8 hF8 hzN8 hzR8 hk8 hzN8' HKA h6 hF6 hzN6 hzR6 x3 y3 h5 hf5 hF5 hpl2
    go_wp2_with fail
    refine bodyPost_ret (node_result rfl rfl (QB.out _ _ _ _)) rfl ?_
    exact ⟨_, _, _, rfl, ⟨3, 0, nm, _, 1, [.node k5 num5 nm5 kids5], rfl, rfl, QK.out _ _ _ _⟩, Q.out _ _ _ _, QF.out _ _ _ _, ⟨n5 + 1, HFIN.out n5 _ HR5.out⟩, hpl3⟩
end
end Go.Proofs.YtaaaicpjlaeiiaaDoor
