/- The contracts of package asm's operands: what they hold, how they are made. -/
import Derived.Test.YtgeagpplihecmaaDoorAsD
import Derived.Laws.EntriesVeiled
namespace Go.Proofs.YtgeagpplihecmaaDoor
open Go.RowKit
open AS (Ins)
/-- The function that addresses a register's field. -/
def fnF (k : Nat) : Value := if k = 0 then .func (.func 43) #[] #[] else if k = 1 then .func (.func 44) #[] #[] else .func (.func 45) #[] #[]
def fnW (k g : Nat) : Value := if k = 3 then .func (.func 46) #[] #[] else .func (.func 61) #[] #[.pointer (some ⟨g, 0, none⟩)]
def fnR (k g : Nat) : Value := if k = 3 then .func (.func 48) #[] #[] else .func (.func 62) #[] #[.pointer (some ⟨g, 0, none⟩)]
/-- The block behind the closures of a register. -/
def RegAt (w : World) (k g : Nat) : Prop := k ≤ 2 → Blk w g 93 #[fnF k]
def opCells (g : Nat → Nat) (ks : List Nat) : Array Value := (ks.flatMap fun k => [fnW k (g k), fnR k (g k)]).toArray
/-- A row of operands. -/
def OpsRow (w : World) (A : Option Addr) (ks : List Nat) : Prop := ∃ (g : Nat → Nat) (b : Nat), (ks ≠ [] → A = some ⟨b, 0, none⟩ ∧ Blk w b 68 (opCells g ks)) ∧ ∀ k, k ∈ ks → RegAt w k (g k)
theorem RegAt.below {w w' : World} {k g : Nat} (h : RegAt w k g) (hb : Below w.heap.size w w') : RegAt w' k g := fun hk => (h hk).below hb
theorem OpsRow.below {w w' : World} {A : Option Addr} {ks : List Nat} (h : OpsRow w A ks) (hb : Below w.heap.size w w') : OpsRow w' A ks := by
  obtain ⟨g, b, h1, h2⟩ := h
  exact ⟨g, b, fun hn => ⟨(h1 hn).1, (h1 hn).2.below hb⟩, fun k hk => (h2 k hk).below hb⟩
theorem opsrow_nil (w : World) (A : Option Addr) : OpsRow w A [] := ⟨fun _ => 0, 0, fun h => absurd rfl h, fun k h => by simp at h⟩
theorem ops_at (g : Nat → Nat) : ∀ (ks : List Nat) (j k : Nat), ks[j]? = some k → (ks.flatMap fun k => [fnW k (g k), fnR k (g k)])[j * 2]? = some (fnW k (g k)) ∧ (ks.flatMap fun k => [fnW k (g k), fnR k (g k)])[j * 2 + 1]? = some (fnR k (g k))
  | [], _, _, h => by simp at h
  | x :: ks, 0, k, h => by
    simp only [List.getElem?_cons_zero, Option.some.injEq] at h
    subst h
    exact ⟨rfl, rfl⟩
  | x :: ks, j + 1, k, h => by
    obtain ⟨h1, h2⟩ := ops_at g ks j k (by simpa using h)
    have e : (j + 1) * 2 = j * 2 + 1 + 1 := by omega
    rw [List.flatMap_cons, e]
    exact ⟨h1, h2⟩
theorem opsrow_new (w : World) (ks : List Nat) (g : Nat → Nat) (cs : Array Value) (hcs : cs = opCells g ks) (hr : ∀ k, RegAt w k (g k)) {b : Nat} (hb : w.heap.size = b) : OpsRow (w.alloc (.cells cs 68)) (some ⟨b, 0, none⟩) ks := by
  subst hb hcs
  exact ⟨g, w.heap.size, fun _ => ⟨rfl, Blk.new w _ _⟩, fun k _ hk => (hr k hk).alloc _⟩
/-- What is known of one operand of a row. -/
theorem OpsRow.one {w : World} {A : Option Addr} {ks : List Nat} (h : OpsRow w A ks) {j k : Nat} (hj : ks[j]? = some k) :
    ∃ b g, A = some ⟨b, 0, none⟩ ∧ b < w.heap.size ∧ w.cell? ⟨b, j * 2, none⟩ = some (fnW k g) ∧ w.cell? ⟨b, j * 2 + 1, none⟩ = some (fnR k g) ∧ RegAt w k g := by
  obtain ⟨g, b, h1, h2⟩ := h
  have hm := List.mem_of_getElem? hj
  obtain ⟨hA, hb⟩ := h1 (fun e => by rw [e] at hm; simp at hm)
  obtain ⟨h3, h4⟩ := ops_at g ks j k hj
  refine ⟨b, g k, hA, hb.lt, ?_, ?_, h2 k hm⟩
  · rw [hb.cell]; unfold opCells; rw [List.getElem?_toArray]; exact h3
  · rw [hb.cell]; unfold opCells; rw [List.getElem?_toArray]; exact h4
theorem operand_result {fn : Func} {p : Tmp} (h : fn.results = #[.cell p 68]) {tmps : Array Value} {w : World} {g : Nat} {a0 a1 : Value} (hp : tmps.getD p undef = .pointer (some ⟨g, 0, none⟩)) (hb : Blk w g 68 #[a0, a1]) :
    (results fn tmps).run Tryd.prog w = .ok (.agg #[a0, a1]) w :=
  results_cell_row h tmps w g 68 _ (0, 0) _ hp hb Tryd.underlying68 rfl (by kernel_rfl)
section
set_option maxHeartbeats 1000000
set_option maxRecDepth 100000
theorem register_any (f : FuncId) (w : World) : Calls Tryd.prog 42 #[.func (.func f) #[] #[]] w fun e w' => e = .returned (.agg #[.func (.func 61) #[] #[.pointer (some ⟨w.heap.size, 0, none⟩)], .func (.func 62) #[] #[.pointer (some ⟨w.heap.size, 0, none⟩)]]) ∧ Below w.heap.size w w' ∧ Blk w' w.heap.size 93 #[.func (.func f) #[] #[]] := by
  have hmf : ∀ (fn : Fn) (first cap : Array Value) (w : World), (Instr.makeFunc fn first cap).run Tryd.prog w = .ok (.func fn first cap) w := fun _ _ _ _ => rfl
  go_enter Tryd.func42, Tryd.ntmps42
  go_wp2_with fail
  have hb : Below w.heap.size w ((w.alloc (.cells #[.func (.func f) #[] #[]] 93)).alloc (.cells #[.func (.func 61) #[] #[.pointer (some ⟨w.heap.size, 0, none⟩)], .func (.func 62) #[] #[.pointer (some ⟨w.heap.size, 0, none⟩)]] 68)) := ((Below.refl _ _).alloc (Nat.le_refl _) _).alloc (by simp) _
  refine bodyPost_ret (operand_result rfl rfl (blk_second w _ _ _ _)) rfl ?_
  exact ⟨rfl, hb, (Blk.new w _ _).alloc _⟩
theorem operands_any (op : Nat) (hop : op < 30) (w : World) : Calls Tryd.prog 27 #[.int .u8 (op : Int)] w fun e w' => ∃ A c, e = .returned (.slice A (AS.shape op).length c) ∧ Below w.heap.size w w' ∧ OpsRow w' A (AS.shape op) := by
  have hmf : ∀ (fn : Fn) (first cap : Array Value) (w : World), (Instr.makeFunc fn first cap).run Tryd.prog w = .ok (.func fn first cap) w := fun _ _ _ _ => rfl
  have HR := Lib.hid register_any
  go_enter Tryd.func27, Tryd.ntmps27
  go_wp2_with fail
  refine (HR.out _ _).mono ?_
  rintro e w1 ⟨rfl, hb1, hk1⟩
  obtain ⟨HB1, HK01, HP01⟩ := (fun h1 h2 h3 => ⟨h1, h2, h3⟩ : _ → _ → _ → _ ∧ _ ∧ _) (Lib.hid (hb1.alloc hb1.size (.cells #[.func (.func 61) #[] #[.pointer (some ⟨w.heap.size, 0, none⟩)], .func (.func 62) #[] #[.pointer (some ⟨w.heap.size, 0, none⟩)]] 68))) (Lib.hid (hk1.alloc (.cells #[.func (.func 61) #[] #[.pointer (some ⟨w.heap.size, 0, none⟩)], .func (.func 62) #[] #[.pointer (some ⟨w.heap.size, 0, none⟩)]] 68))) (Lib.hid (Blk.new w1 68 #[.func (.func 61) #[] #[.pointer (some ⟨w.heap.size, 0, none⟩)], .func (.func 62) #[] #[.pointer (some ⟨w.heap.size, 0, none⟩)]]))
  clear hb1 hk1
  go_wp2_with fail
  generalize w1.alloc (.cells #[.func (.func 61) #[] #[.pointer (some ⟨w.heap.size, 0, none⟩)], .func (.func 62) #[] #[.pointer (some ⟨w.heap.size, 0, none⟩)]] 68) = v1 at *
  generalize w1.heap.size = p0 at *
  refine (HR.out _ _).mono ?_
  rintro e w2 ⟨rfl, hb2, hk2⟩
  have hs2 := hb2.size
  have HB2 := Lib.hid ((HB1.out.trans (hb2.mono HB1.out.size)).alloc (Nat.le_trans HB1.out.size hs2) (.cells #[.func (.func 61) #[] #[.pointer (some ⟨v1.heap.size, 0, none⟩)], .func (.func 62) #[] #[.pointer (some ⟨v1.heap.size, 0, none⟩)]] 68))
  have HK02 := Lib.hid ((HK01.out.below hb2).alloc (.cells #[.func (.func 61) #[] #[.pointer (some ⟨v1.heap.size, 0, none⟩)], .func (.func 62) #[] #[.pointer (some ⟨v1.heap.size, 0, none⟩)]] 68))
  have HP02 := Lib.hid ((HP01.out.below hb2).alloc (.cells #[.func (.func 61) #[] #[.pointer (some ⟨v1.heap.size, 0, none⟩)], .func (.func 62) #[] #[.pointer (some ⟨v1.heap.size, 0, none⟩)]] 68))
  have HK12 := Lib.hid (hk2.alloc (.cells #[.func (.func 61) #[] #[.pointer (some ⟨v1.heap.size, 0, none⟩)], .func (.func 62) #[] #[.pointer (some ⟨v1.heap.size, 0, none⟩)]] 68))
  have HP12 := Lib.hid (Blk.new w2 68 #[.func (.func 61) #[] #[.pointer (some ⟨v1.heap.size, 0, none⟩)], .func (.func 62) #[] #[.pointer (some ⟨v1.heap.size, 0, none⟩)]])
  have hv1 := HB1.out.size
  clear hb2 hk2 HB1 HK01 HP01 hs2
  go_wp2_with fail
  generalize w2.alloc (.cells #[.func (.func 61) #[] #[.pointer (some ⟨v1.heap.size, 0, none⟩)], .func (.func 62) #[] #[.pointer (some ⟨v1.heap.size, 0, none⟩)]] 68) = v2 at *
  generalize w2.heap.size = p1 at *
  refine (HR.out _ _).mono ?_
  rintro e w3 ⟨rfl, hb3, hk3⟩
  have hs3 := hb3.size
  have hv2 := HB2.out.size
  have HB3 := Lib.hid (((HB2.out.trans (hb3.mono HB2.out.size)).alloc (Nat.le_trans HB2.out.size hs3) (.cells #[.func (.func 61) #[] #[.pointer (some ⟨v2.heap.size, 0, none⟩)], .func (.func 62) #[] #[.pointer (some ⟨v2.heap.size, 0, none⟩)]] 68)).alloc (by simp; omega) (.cells #[.func (.func 46) #[] #[], .func (.func 48) #[] #[]] 68))
  have HK03 := Lib.hid (((HK02.out.below hb3).alloc (.cells #[.func (.func 61) #[] #[.pointer (some ⟨v2.heap.size, 0, none⟩)], .func (.func 62) #[] #[.pointer (some ⟨v2.heap.size, 0, none⟩)]] 68)).alloc (.cells #[.func (.func 46) #[] #[], .func (.func 48) #[] #[]] 68))
  have HP03 := Lib.hid (((HP02.out.below hb3).alloc (.cells #[.func (.func 61) #[] #[.pointer (some ⟨v2.heap.size, 0, none⟩)], .func (.func 62) #[] #[.pointer (some ⟨v2.heap.size, 0, none⟩)]] 68)).alloc (.cells #[.func (.func 46) #[] #[], .func (.func 48) #[] #[]] 68))
  have HK13 := Lib.hid (((HK12.out.below hb3).alloc (.cells #[.func (.func 61) #[] #[.pointer (some ⟨v2.heap.size, 0, none⟩)], .func (.func 62) #[] #[.pointer (some ⟨v2.heap.size, 0, none⟩)]] 68)).alloc (.cells #[.func (.func 46) #[] #[], .func (.func 48) #[] #[]] 68))
  have HP13 := Lib.hid (((HP12.out.below hb3).alloc (.cells #[.func (.func 61) #[] #[.pointer (some ⟨v2.heap.size, 0, none⟩)], .func (.func 62) #[] #[.pointer (some ⟨v2.heap.size, 0, none⟩)]] 68)).alloc (.cells #[.func (.func 46) #[] #[], .func (.func 48) #[] #[]] 68))
  have HK23 := Lib.hid ((hk3.alloc (.cells #[.func (.func 61) #[] #[.pointer (some ⟨v2.heap.size, 0, none⟩)], .func (.func 62) #[] #[.pointer (some ⟨v2.heap.size, 0, none⟩)]] 68)).alloc (.cells #[.func (.func 46) #[] #[], .func (.func 48) #[] #[]] 68))
  have HP23 := Lib.hid ((Blk.new w3 68 #[.func (.func 61) #[] #[.pointer (some ⟨v2.heap.size, 0, none⟩)], .func (.func 62) #[] #[.pointer (some ⟨v2.heap.size, 0, none⟩)]]).alloc (.cells #[.func (.func 46) #[] #[], .func (.func 48) #[] #[]] 68))
  have HP33 := Lib.hid (blk_second w3 68 68 #[.func (.func 61) #[] #[.pointer (some ⟨v2.heap.size, 0, none⟩)], .func (.func 62) #[] #[.pointer (some ⟨v2.heap.size, 0, none⟩)]] #[.func (.func 46) #[] #[], .func (.func 48) #[] #[]])
  clear hb3 hk3 HB2 HK02 HP02 HK12 HP12 hs3
  obtain ⟨a0, a1⟩ := HP03.out.pair
  obtain ⟨b0, b1⟩ := HP13.out.pair
  have hreg : ∀ k, RegAt ((w3.alloc (.cells #[.func (.func 61) #[] #[.pointer (some ⟨v2.heap.size, 0, none⟩)], .func (.func 62) #[] #[.pointer (some ⟨v2.heap.size, 0, none⟩)]] 68)).alloc (.cells #[.func (.func 46) #[] #[], .func (.func 48) #[] #[]] 68)) k (if k = 0 then w.heap.size else if k = 1 then v1.heap.size else v2.heap.size) := by
    intro k hk
    have : k = 0 ∨ k = 1 ∨ k = 2 := by omega
    rcases this with rfl | rfl | rfl
    · exact HK03.out
    · exact HK13.out
    · exact HK23.out
  have HREG := Lib.hid hreg
  have HBX := Lib.hid (fun o => HB3.out.alloc HB3.out.size o)
  clear hreg hv1 hv2 HP03 HP13 HK03 HK13 HK23 HP23 HP33 HR
  have hops : op = 0 ∨ op = 1 ∨ op = 2 ∨ op = 3 ∨ op = 4 ∨ op = 5 ∨ op = 6 ∨ op = 7 ∨ op = 8 ∨ op = 9 ∨ op = 10 ∨ op = 11 ∨ op = 12 ∨ op = 13 ∨ op = 14 ∨ op = 15 ∨ op = 16 ∨ op = 17 ∨ op = 18 ∨ op = 19 ∨ op = 20 ∨ op = 21 ∨ op = 22 ∨ op = 23 ∨ op = 24 ∨ op = 25 ∨ op = 26 ∨ op = 27 ∨ op = 28 ∨ op = 29 := by omega
  rcases hops with rfl | rfl | rfl | rfl | rfl | rfl | rfl | rfl | rfl | rfl | rfl | rfl | rfl | rfl | rfl | rfl | rfl | rfl | rfl | rfl | rfl | rfl | rfl | rfl | rfl | rfl | rfl | rfl | rfl | rfl
  all_goals (go_wp2_with fail)
  all_goals
    go_ret
    first
      | exact ⟨_, _, rfl, HB3.out, opsrow_nil _ _⟩
      | (refine ⟨_, _, rfl, HBX.out _, ?_⟩; refine opsrow_new _ _ (fun k => if k = 0 then w.heap.size else if k = 1 then v1.heap.size else v2.heap.size) _ ?_ HREG.out (by simp); rfl)
theorem fieldf_any (k b : Nat) (hk : k ≤ 2) (w : World) (f : FuncId) (hf : fnF k = .func (.func f) #[] #[]) : Calls Tryd.prog f #[.pointer (some ⟨b, 0, none⟩)] w fun e w' => e = .returned (.pointer (some ⟨b, k + 1, none⟩)) ∧ w' = w := by
  have : k = 0 ∨ k = 1 ∨ k = 2 := by omega
  rcases this with rfl | rfl | rfl
  · have : 43 = f := by unfold fnF at hf; simpa using hf
    subst this
    go_enter Tryd.func43, Tryd.ntmps43
    go_wp2_with fail
    go_ret
    exact ⟨rfl, rfl⟩
  · have : 44 = f := by unfold fnF at hf; simpa using hf
    subst this
    go_enter Tryd.func44, Tryd.ntmps44
    go_wp2_with fail
    go_ret
    exact ⟨rfl, rfl⟩
  · have : 45 = f := by unfold fnF at hf; simpa using hf
    subst this
    go_enter Tryd.func45, Tryd.ntmps45
    go_wp2_with fail
    go_ret
    exact ⟨rfl, rfl⟩
end
end Go.Proofs.YtgeagpplihecmaaDoor
