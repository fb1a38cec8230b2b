/- The candidates sorted by priority; a row of ints sorted. -/
import Derived.Test.YtpmbhdheeaejgaaGreatDoorSlG
import Derived.Test.YtpmbhdheeaejgaaGreatDoorShelf
import Derived.Lib.OwnBridge
namespace Go.Proofs.YtpmbhdheeaejgaaGreatDoor
open Go.RowKit Go.Maps Go.Sort Go.Lib
open SL (Tk Jb Ms Cd)
/-- Distinct numbers, each candidate in bounds. -/
def okCs (l : List Cd) : Prop := (∀ c ∈ l, okC c) ∧ (l.map (·.num)).Nodup
theorem nums_inj {l : List Cd} (h : (l.map (·.num)).Nodup) {i j : Fin l.length} (e : (l.get i).num = (l.get j).num) : i = j := by
  have hi : (l.map (·.num))[i.val]'(by simp) = (l.map (·.num))[j.val]'(by simp) := by simpa using e
  exact Fin.ext ((List.getElem_inj h).1 hi)
theorem map_finRange {α : Type} (l : List α) : (List.finRange l.length).map l.get = l := by
  apply List.ext_getElem
  · simp
  · intro i h1 h2; simp
def encF (l : List Cd) (i : Fin l.length) : List Value := cdL (l.get i)
def cfF (l : List Cd) (i j : Fin l.length) : Int := SL.cmp (l.get i) (l.get j)
theorem lt_bef {l : List Cd} (h : (l.map (·.num)).Nodup) : (ltOf (cfF l)) = fun i j => SL.bef (l.get i) (l.get j) := by
  funext i j
  unfold ltOf cfF SL.cmp
  by_cases e : (l.get i).num = (l.get j).num
  · have := nums_inj h e
    subst this
    simp [SL.bef_irr]
  · rw [if_neg e]
    cases SL.bef (l.get i) (l.get j) <;> simp
theorem bef_cases {l : List Cd} (h : (l.map (·.num)).Nodup) (i j : Fin l.length) (h1 : SL.bef (l.get i) (l.get j) = false) (h2 : SL.bef (l.get j) (l.get i) = false) : i = j := by
  by_cases e : (l.get i).num = (l.get j).num
  · exact nums_inj h e
  · have := SL.bef_total e h1
    rw [h2] at this
    cases this
theorem swo_bef {l : List Cd} (h : (l.map (·.num)).Nodup) : SWO (ltOf (cfF l)) := by
  rw [lt_bef h]
  refine ⟨fun x => SL.bef_irr _, fun x y z h1 h2 => SL.bef_trans h1 h2, fun x y z h1 h2 => ?_⟩
  rw [← Bool.not_eq_true]
  intro h3
  have h1 : SL.bef (l.get x) (l.get y) = false := h1
  have h2 : SL.bef (l.get y) (l.get z) = false := h2
  have h3 : SL.bef (l.get x) (l.get z) = true := h3
  by_cases hyx : SL.bef (l.get y) (l.get x) = true
  · have := SL.bef_trans hyx h3
    rw [h2] at this; cases this
  · have := bef_cases h x y h1 (by simpa using hyx)
    subst this
    rw [h2] at h3; cases h3
theorem flatK_list {α : Type} [Inhabited α] (enc : α → List Value) (k : Nat) (hk : ∀ x, (enc x).length = k) (l : List α) : (flatK enc k l.toArray).toList = l.flatMap enc := by
  apply List.ext_getElem?
  intro t
  rw [Array.getElem?_toList]
  by_cases ht : t < l.length * k
  · have hk0 : 0 < k := by rcases Nat.eq_zero_or_pos k with h | h; subst h; simp at ht; exact h
    have hq : t / k < l.length := Nat.div_lt_of_lt_mul (by rw [Nat.mul_comm]; exact ht)
    have h1 := get_flatK enc k l.toArray t (by simpa using ht)
    rw [getElem!_pos _ t (by simpa using ht)] at h1
    rw [Array.getElem?_eq_getElem (by simpa using ht), h1]
    have h2 := flat_at k enc hk l (t / k) (t % k) l[t / k] (List.getElem?_eq_getElem hq) (Nat.mod_lt _ hk0)
    rw [show t / k * k + t % k = t from by rw [Nat.mul_comm]; exact Nat.div_add_mod t k] at h2
    rw [h2, getElem!_pos l.toArray (t / k) (by simpa using hq)]
    have h3 : t % k < (enc l[t / k]).length := by rw [hk]; exact Nat.mod_lt _ hk0
    rw [List.getElem?_eq_getElem h3]
    simp [getElem!_pos, h3]
  · rw [Array.getElem?_eq_none (by simpa using ht), List.getElem?_eq_none (by rw [flat_len k enc hk]; omega)]
/-- A row of the call's own, written over. -/
theorem own_putRow {w : World} {base : Nat} {e : TypeId} {size g n cap : Nat} {xs : List Value} (h : w.ownsRow base e size (.slice (some ⟨g, 0, none⟩) n cap) n xs) (F : Array Value) (hF : F.size = n * size) (q : Nat) (os : Array Obj) :
    (grow (putRow id (Sort.ahead w q) g 0 F) os).ownsRow base e size (.slice (some ⟨g, 0, none⟩) n cap) n F.toList ∧ FxT [e] w (grow (putRow id (Sort.ahead w q) g 0 F) os) ∧ (∀ B w0, Below B w0 w → B ≤ g → Below B w0 (grow (putRow id (Sort.ahead w q) g 0 F) os)) ∧ ∀ T w0, FxT T w0 w → w0.heap.size ≤ g → FxT T w0 (grow (putRow id (Sort.ahead w q) g 0 F) os) := by
  rcases h.2 with ⟨e0, _⟩ | ⟨g', cap', cur, e0, hb, hg, hn, hm, hs, ht⟩
  · cases e0
  · injection e0 with e1 _ e3
    injection e1 with e1
    injection e1 with e1
    subst e1; subst e3
    have hlt : g < w.heap.size := (Array.getElem?_eq_some_iff.1 hg).1
    have hp : (putRow id (Sort.ahead w q) g 0 F).heap[g]? = some (.cells (putCells id 0 F cur) e (0, 0)) := by
      simp [putRow, mapBlock, Sort.ahead, Array.getElem?_modify, hg, onCells]
    have hsz : (putRow id (Sort.ahead w q) g 0 F).heap.size = w.heap.size := by simp [putRow, mapBlock, Sort.ahead]
    have hcs : n * size ≤ cur.size := by rw [hs]; exact Nat.mul_le_mul_right _ hn
    refine ⟨⟨by simpa using hF, .inr ⟨g, cap, putCells id 0 F cur, rfl, hb, ?_, hn, hm, by simpa [putCells] using hs, ?_⟩⟩, ⟨?_, ?_⟩, ?_, ?_⟩
    · show ((putRow id (Sort.ahead w q) g 0 F).heap ++ os)[g]? = _
      rw [Array.getElem?_append_left (by omega), hp]
    · apply List.ext_getElem?
      intro j
      rw [List.getElem?_take, Array.getElem?_toList]
      by_cases hj : j < n * size
      · rw [if_pos hj]
        simp only [putCells, Array.getElem?_mapIdx, Array.getElem?_eq_getElem (show j < cur.size by omega), Option.map_some]
        rw [if_pos (by omega), Array.getElem?_toList, Array.getElem?_eq_getElem (by omega)]
        simp [getElem!_pos, show j < F.size by omega]
      · rw [if_neg hj, Array.getElem?_toList, Array.getElem?_eq_none (by omega)]
    · show w.heap.size ≤ ((putRow id (Sort.ahead w q) g 0 F).heap ++ os).size
      rw [Array.size_append, hsz]; omega
    · intro i cs t m hi ht'
      have hil := (Array.getElem?_eq_some_iff.1 hi).1
      show ((putRow id (Sort.ahead w q) g 0 F).heap ++ os)[i]? = _
      rw [Array.getElem?_append_left (by omega)]
      have hgi : g ≠ i := by
        rintro rfl
        rw [hg] at hi
        injection hi with hi
        injection hi with _ h2
        exact ht' (by simp [h2])
      simp [putRow, mapBlock, Sort.ahead, Array.getElem?_modify, hgi, hi]
    · intro B w0 hB hBg
      refine ⟨hB.os, hB.tape, hB.output, ?_, fun k hk => ?_⟩
      · show w0.heap.size ≤ ((putRow id (Sort.ahead w q) g 0 F).heap ++ os).size
        rw [Array.size_append, hsz]
        have := hB.size
        omega
      · show ((putRow id (Sort.ahead w q) g 0 F).heap ++ os)[k]? = _
        rw [Array.getElem?_append_left (by omega), ← hB.block k hk]
        simp [putRow, mapBlock, Sort.ahead, Array.getElem?_modify, show g ≠ k by omega]
    · intro T w0 hF0 hBg
      refine ⟨?_, fun i cs t m hi ht' => ?_⟩
      · show w0.heap.size ≤ ((putRow id (Sort.ahead w q) g 0 F).heap ++ os).size
        rw [Array.size_append, hsz]
        have := hF0.1
        omega
      · have hil := (Array.getElem?_eq_some_iff.1 hi).1
        have h1 := hF0.2 i cs t m hi ht'
        have := hF0.1
        show ((putRow id (Sort.ahead w q) g 0 F).heap ++ os)[i]? = _
        rw [Array.getElem?_append_left (by omega), ← h1]
        simp [putRow, mapBlock, Sort.ahead, Array.getElem?_modify, show g ≠ i by omega]
section
set_option maxHeartbeats 1000000
set_option maxRecDepth 100000
end
end Go.Proofs.YtpmbhdheeaejgaaGreatDoor
