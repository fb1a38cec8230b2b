/- The contracts of asm.opcodes and of a look into its table. -/
import Derived.Test.YtgeagpplihecmaaDoorAsH
import Derived.Maps.Own
import Derived.Maps.Views
import Derived.Maps.OwnSet
namespace Go.Proofs.YtgeagpplihecmaaDoor
open Go.RowKit Go.Maps
open Go
open AS (Ins)
def opTab (j : Nat) : DataW Unit := (List.range j).foldl (fun D op => D.put (.string (AS.name op)) (.lit (.int .u8 (op : Int)))) (.map [])
theorem opTab_succ (j : Nat) : opTab (j + 1) = (opTab j).put (.string (AS.name j)) (.lit (.int .u8 (j : Int))) := by
  unfold opTab
  rw [List.range_succ, List.foldl_append]
  rfl
theorem opTab_map : ∀ j, IsMap (opTab j)
  | 0 => ⟨[], rfl⟩
  | j + 1 => by
    obtain ⟨es, h⟩ := opTab_map j
    rw [opTab_succ, h]
    exact ⟨_, rfl⟩
theorem name_inj {a b : Nat} (ha : a < 30) (hb : b < 30) (h : AS.name a = AS.name b) : a = b := by
  have h1 := (AS.name_ok a ha).2.2.1
  have h2 := (AS.name_ok b hb).2.2.1
  rw [h, h2] at h1
  exact (Option.some.inj h1).symm
theorem opTab_at (s : List UInt8) (z : DataW Unit) : ∀ j, j ≤ 30 → (∀ op, op < j → AS.name op = s → (opTab j).atKey (.string s) z = .lit (.int .u8 (op : Int))) ∧ ((∀ op, op < j → AS.name op ≠ s) → (opTab j).atKey (.string s) z = z)
  | 0, _ => ⟨fun op h => by omega, fun _ => rfl⟩
  | j + 1, hj => by
    obtain ⟨h1, h2⟩ := opTab_at s z j (by omega)
    rw [opTab_succ]
    refine ⟨fun op ho hs => ?_, fun hn => ?_⟩
    · by_cases e : op = j
      · subst e; rw [hs]; exact atKey_put_same (opTab_map _) (show WideAt.IsKeyLit (.string s) from trivial) _ _
      · have hne : AS.name j ≠ s := fun h => e (name_inj (by omega) (by omega) (hs.trans h.symm))
        rw [atKey_put_other (by intro h; injection h with h; exact hne h.symm)]
        exact h1 op (by omega) hs
    · rw [atKey_put_other (by intro h; injection h with h; exact hn j (by omega) h.symm)]
      exact h2 (fun op ho => hn op (by omega))
theorem opIx_some {s : List UInt8} {op : Nat} (h : AS.opIx AS.names s = some op) : op < 30 ∧ AS.name op = s := by
  unfold AS.opIx at h
  rw [List.findIdx?_eq_some_iff_getElem] at h
  obtain ⟨h1, h2, _⟩ := h
  have h3 : op < 30 := h1
  refine ⟨h3, ?_⟩
  unfold AS.name
  rw [List.getD_eq_getElem?_getD, List.getElem?_eq_getElem h1]
  simpa using h2
theorem opIx_none {s : List UInt8} (h : AS.opIx AS.names s = none) : ∀ op, op < 30 → AS.name op ≠ s := by
  intro op ho he
  have := (AS.name_ok op ho).2.2.1
  rw [he, h] at this
  cases this
def TabIs (w : World) (b : Nat) : Prop := w.ownsMap Tryd.prog 9 (plainElem Tryd.prog 5) b 30 (opTab 30)
theorem tab_look {w : World} {b : Nat} (h : TabIs w b) (s : ByteArray) (hs : s.size ≤ maxLen) :
    (Instr.lookup 71 (.map (some b)) (.string s) true).run Tryd.prog w = .ok (.tuple #[.int .u8 (((AS.opIx AS.names s.data.toList).getD 0 : Nat) : Int), .bool (AS.opIx AS.names s.data.toList).isSome]) w := by
  obtain ⟨es, clock, hb, F, _, hD⟩ := h
  have hat := fun z => opTab_at s.data.toList z 30 (Nat.le_refl _)
  rw [hD] at hat
  have hz : (zeroValue 5).run Tryd.prog w = .ok (.int .u8 0) w := by kernel_rfl
  rcases Maps.fit_look true (string_keyed Tryd.underlying9) Tryd.underlying71 hz hb F (WideMaps.keyOf_string_mk Tryd.underlying9 hs) with ⟨hrun, _, h0⟩ | ⟨e0, y, _, _, hrun, hRv, h1, _⟩
  · have hn : AS.opIx AS.names s.data.toList = none := by
      cases hx : AS.opIx AS.names s.data.toList with
      | none => rfl
      | some op =>
        obtain ⟨k1, k2⟩ := opIx_some hx
        have e1 := (hat .nil).1 op k1 k2
        rw [h0 .nil] at e1
        cases e1
    rw [hrun, hn]
    rfl
  · obtain ⟨c, hc, hy, _⟩ := plainElem_int_inv Tryd.underlying5 hRv
    have hx : ∃ op, AS.opIx AS.names s.data.toList = some op := by
      cases hx : AS.opIx AS.names s.data.toList with
      | some op => exact ⟨op, rfl⟩
      | none =>
        have e1 := (hat .nil).2 (opIx_none hx)
        rw [h1 .nil, hy] at e1
        cases e1
    obtain ⟨op, hx⟩ := hx
    obtain ⟨k1, k2⟩ := opIx_some hx
    have e1 := (hat .nil).1 op k1 k2
    rw [h1 .nil, hy] at e1
    have e2 : c = (op : Int) := by
      simp only [DataW.lit.injEq, Lit.int.injEq] at e1
      exact e1.2
    rw [hrun, hc, hx, e2]
    rfl
section
set_option maxHeartbeats 1000000
set_option maxRecDepth 100000
theorem opcodes_any (w : World) (hF : FmtIs w) : Calls Tryd.prog 31 #[] w fun e w' => ∃ b, e = .returned (.map (some b)) ∧ w.heap.size ≤ b ∧ TabIs w' b ∧ Below w.heap.size w w' := by
  have hmk : ∀ w : World, (Instr.makeMap 71 none).run Tryd.prog w = .ok (.map (some w.heap.size)) (w.alloc (.map #[] 0)) := fun w => run_makeMap _ w
  have HST := Lib.hid (World.ownsMap_made (H := Unit) w Tryd.prog 9 (plainElem Tryd.prog 5))
  have HB := Lib.hid (show Below w.heap.size w (w.alloc (.map #[] 0)) from (Below.refl _ _).alloc (Nat.le_refl _) _)
  have HF := Lib.hid hF
  clear hF
  go_enter Tryd.func31, Tryd.ntmps31
  go_wp2_with fail
  go_loopw [4] (fun v wr => ∃ k : Nat, k ≤ 30 ∧ v = .int .u8 (k : Int) ∧ wr.ownsMap (H := Unit) Tryd.prog 9 (plainElem Tryd.prog 5) w.heap.size k (opTab k) ∧ Below w.heap.size w wr) (fun v _ => 30 - (intOf v).toNat)
  case atStart => exact ⟨0, by omega, rfl, HST.out, HB.out⟩
  case round =>
    obtain ⟨k, hk, rfl, hM, hB⟩ := hrel
    have HM := Lib.hid hM
    have HBW := Lib.hid hB
    clear hM hB
    by_cases hlt : k < 30
    · have q1 : (k : Int) < 30 := by omega
      have HMN := Lib.hid (mnemonic_any k hlt wr (HF.out.below HBW.out))
      have hsz : (⟨(AS.name k).toArray⟩ : ByteArray).size ≤ maxLen := by
        have := (AS.name_ok k hlt).2.2.2
        simp only [ByteArray.size, List.size_toArray]
        unfold maxLen; omega
      have hlw : (Lit.int .u8 (k : Int)).wf = true := by
        have : ∀ j : Fin 30, (Lit.int .u8 ((j.val : Nat) : Int)).wf = true := by decide
        exact this ⟨k, hlt⟩
      obtain ⟨w', hrun, hM', hg⟩ := HM.out.update (t := 71) (string_keyed Tryd.underlying9) Tryd.underlying71 (by unfold maxLen; omega) (WideMaps.keyOf_string_mk Tryd.underlying9 hsz) (plainElem_int (H := Unit) Tryd.underlying5 hlw)
      have HM' := Lib.hid hM'
      have HG := Lib.hid hg
      clear hM' hg hsz hlw
      go_wp2_with fail
      refine HMN.out.mono ?_
      rintro e w3 ⟨rfl, rfl⟩
      go_wp2_with fail
      exact ⟨⟨k + 1, by omega, by simp, by rw [opTab_succ]; exact HM'.out, below_grow HBW.out HG.out HBW.out.size (fun j hj => by injection hj with hj; omega)⟩, by simp [intOf]; omega⟩
    · have hk30 : k = 30 := by omega
      subst hk30
      go_wp2_with fail
      go_ret
      exact ⟨w.heap.size, rfl, Nat.le_refl _, HM.out, HBW.out⟩
end
end Go.Proofs.YtgeagpplihecmaaDoor
