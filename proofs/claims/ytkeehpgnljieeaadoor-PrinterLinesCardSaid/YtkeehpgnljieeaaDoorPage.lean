/- The printer's page: strings.Builder's copyCheck, WriteByte, WriteString and String at a builder that lies at the head of a page (turned after the library's own proofs; the panic on a copied builder is not reached). -/
import Derived.Test.YtkeehpgnljieeaaDoorKB
import Derived.Lib.FrozenHead2
import Derived.Lib.OthersKept
import Derived.WalkSpells
import Derived.RegionTactic
import Derived.Laws.Externs
namespace Go.Proofs.YtkeehpgnljieeaaDoor
open Go.RowKit

theorem infoByteP : (Tryd.prog.info? 5).map (fun i => (i.zero, i.size, i.bytes)) = some (some (.int .u8 0), 1, 1) := by kernel_rfl
theorem sizeBuilder : (Tryd.prog.info? 41).map (·.size) = some 2 := by kernel_rfl
theorem liesPage : liesAt Tryd.prog Tryd.prog.depth 43 (3 / Tryd.prog.cellsOf 43) 0 41 1 = true := by kernel_rfl
theorem cellsByte : Tryd.prog.cellsOf 5 = 1 := by kernel_rfl

/-- A page in a block of its own: the text so far, as cells, and the indentation. -/
def PageAt (B b : Nat) (p : Value) (bs : List Value) (i : Int) (w : World) : Prop :=
  B ≤ b ∧ ∃ v, w.heap[b]? = some (.cells #[p, v, .int .i64 i] 43 (0, 0)) ∧ w.ownsRowF B 5 1 v bs.length bs ∧ v.ownBlock ≠ some b ∧ (bs = [] → v = .slice none 0 0)
def IsPage (B b : Nat) (bs : List Value) (i : Int) (w : World) : Prop := PageAt B b (.pointer none) bs i w ∨ PageAt B b (.pointer (some ⟨b, 0, none⟩)) bs i w
theorem page_ne : 43 ≠ 5 := by decide
section
variable {B b : Nat} {p : Value} {bs : List Value} {i : Int} {w : World}
theorem PageAt.lt (h : PageAt B b p bs i w) : b < w.heap.size := by
  obtain ⟨_, v, hb, _⟩ := h
  exact (Array.getElem?_eq_some_iff.1 hb).1
theorem PageAt.used (h : PageAt B b p bs i w) (q : Value) : PageAt B b q bs i (w.setCell ⟨b, 0, none⟩ q) := by
  obtain ⟨hB, v, hb, hown, hne, hn⟩ := h
  refine ⟨hB, v, ?_, ?_, hne, hn⟩
  · simp [World.setCell, Array.getElem?_modify, hb]
  · exact hown.kept (row := some b) ⟨rfl, rfl, rfl, by simp [World.setCell], fun k _ hk => Below.heap_setCell _ _ _ _ (fun e => hk (by simp [e]))⟩ (Or.inr hne)
theorem PageAt.put {v v' : Value} {bs' : List Value} (hB : B ≤ b) (hb : w.heap[b]? = some (.cells #[p, v, .int .i64 i] 43 (0, 0))) (hown : w.ownsRowF B 5 1 v' bs'.length bs') (hn : bs' = [] → v' = .slice none 0 0) :
    PageAt B b p bs' i (w.setCell ⟨b, 1, none⟩ v') := by
  have hne := Lib.ownBlock_neF hown hb page_ne
  refine ⟨hB, v', ?_, ?_, hne, hn⟩
  · simp [World.setCell, Array.getElem?_modify, hb]
  · exact hown.kept (row := some b) ⟨rfl, rfl, rfl, by simp [World.setCell], fun k _ hk => Below.heap_setCell _ _ _ _ (fun e => hk (by simp [e]))⟩ (Or.inr hne)
theorem PageAt.alloc (h : PageAt B b p bs i w) (o : Obj) : PageAt B b p bs i (w.alloc o) := by
  have hlt := h.lt
  obtain ⟨hB, v, hb, hown, hne, hn⟩ := h
  exact ⟨hB, v, (Lib.alloc_old w o b hlt).trans hb, hown.kept (World.grownBy_alloc w o none) (by cases hv : v.ownBlock <;> simp), hne, hn⟩
theorem PageAt.drew (h : PageAt B b p bs i w) : PageAt B b p bs i w.drew := h
/-- What keeps all blocks from the page's base on keeps the page. -/
theorem PageAt.below {w' : World} (h : PageAt B b p bs i w) (hb : Below w.heap.size w w') : PageAt B b p bs i w' := by
  obtain ⟨hB, v, hbk, hown, hne, hn⟩ := h
  exact ⟨hB, v, (hb.block b (Array.getElem?_eq_some_iff.1 hbk).1).trans hbk, hown.kept ⟨hb.os, hb.tape, hb.output, hb.size, fun k hk _ => hb.block k hk⟩ (row := none) (by cases hv : v.ownBlock <;> simp), hne, hn⟩
theorem PageAt.indent (h : PageAt B b p bs i w) (j : Int) : PageAt B b p bs j (w.setCell ⟨b, 2, none⟩ (.int .i64 j)) := by
  obtain ⟨hB, v, hb, hown, hne, hn⟩ := h
  refine ⟨hB, v, ?_, ?_, hne, hn⟩
  · simp [World.setCell, Array.getElem?_modify, hb]
  · exact hown.kept (row := some b) ⟨rfl, rfl, rfl, by simp [World.setCell], fun k _ hk => Below.heap_setCell _ _ _ _ (fun e => hk (by simp [e]))⟩ (Or.inr hne)
theorem IsPage.lt (h : IsPage B b bs i w) : b < w.heap.size := h.elim PageAt.lt PageAt.lt
theorem IsPage.alloc (h : IsPage B b bs i w) (o : Obj) : IsPage B b bs i (w.alloc o) := h.elim (fun h => .inl (h.alloc o)) (fun h => .inr (h.alloc o))
theorem IsPage.drew (h : IsPage B b bs i w) : IsPage B b bs i w.drew := h
theorem IsPage.drewN (h : IsPage B b bs i w) (n : Nat) : IsPage B b bs i (w.drewN n) := h
theorem IsPage.below {w' : World} (h : IsPage B b bs i w) (hb : Below w.heap.size w w') : IsPage B b bs i w' := h.elim (fun h => .inl (h.below hb)) (fun h => .inr (h.below hb))
theorem IsPage.indent (h : IsPage B b bs i w) (j : Int) : IsPage B b bs j (w.setCell ⟨b, 2, none⟩ (.int .i64 j)) := h.elim (fun h => .inl (h.indent j)) (fun h => .inr (h.indent j))
theorem IsPage.base (h : IsPage B b bs i w) : B ≤ b := h.elim (·.1) (·.1)
theorem IsPage.cell2 (h : IsPage B b bs i w) : w.cell? ⟨b, 2, none⟩ = some (.int .i64 i) ∧ w.frozen? ⟨b, 2, none⟩ = false := by
  rcases h with ⟨_, v, hb, _⟩ | ⟨_, v, hb, _⟩
  · exact ⟨by rw [Lib.cell_of_heap hb]; rfl, Lib.frozen_of_heap hb 2⟩
  · exact ⟨by rw [Lib.cell_of_heap hb]; rfl, Lib.frozen_of_heap hb 2⟩
theorem fresh_isPage (w : World) : IsPage w.heap.size w.heap.size [] 0 (w.alloc (.cells #[.pointer none, .slice none 0 0, .int .i64 0] 43)) :=
  .inl ⟨Nat.le_refl _, _, heap_alloc_new w _, World.ownsRowF_nil _ _ _ _, by simp [Value.ownBlock], fun _ => rfl⟩
end
section
set_option maxHeartbeats 1000000
set_option maxRecDepth 100000
theorem page_copyCheck_used (b : Nat) (w : World) (h0 : w.cell? ⟨b, 0, none⟩ = some (.pointer (some ⟨b, 0, none⟩))) :
    Calls Tryd.prog 43 #[.pointer (some ⟨b, 0, none⟩)] w fun e w' => e = .returned (.tuple #[]) ∧ w' = w := by
  obtain ⟨j, hj, _⟩ := Option.map_eq_some_iff.1 sizeBuilder
  go_enter Tryd.func43, Tryd.ntmps43
  go_wp2
  rw [Lib.run_neq_ptr_same w _ Tryd.underlying38 hj]
  go_wp2
  go_end0
  exact ⟨rfl, rfl⟩
theorem page_copyCheck_fresh (b : Nat) (w : World) (h0 : w.cell? ⟨b, 0, none⟩ = some (.pointer none)) (hsh : w.shape? b = some (43, 3)) (hfz : w.frozen? ⟨b, 0, none⟩ = false) :
    Calls Tryd.prog 43 #[.pointer (some ⟨b, 0, none⟩)] w fun e w' => e = .returned (.tuple #[]) ∧ w' = w.setCell ⟨b, 0, none⟩ (.pointer (some ⟨b, 0, none⟩)) := by
  obtain ⟨j, hj, hjs⟩ := Option.map_eq_some_iff.1 sizeBuilder
  go_enter Tryd.func43, Tryd.ntmps43
  go_wp2
  rw [Lib.run_to_unsafe w ⟨b, 0, none⟩ Tryd.underlying38 Tryd.underlying81 hj (by rw [hjs]; decide) hsh (Nat.zero_lt_succ 2)]
  simp only [Result.andThen]
  rw [Oper.upon_value]
  go_wp2
  rw [run_callFunc_extern Tryd.func52 (by kernel_rfl) (by kernel_rfl) (by kernel_rfl) (e := Extern.AbiNoEscape.same) (by kernel_rfl)]
  rw [Lib.run_noEscape]
  simp only [Result.andThen]
  rw [Oper.upon_value]
  go_wp2
  rw [Lib.run_from_unsafe w ⟨b, 0, none⟩ Tryd.underlying81 Tryd.underlying38 hj hsh liesPage]
  simp only [Result.andThen]
  rw [Oper.upon_value]
  go_wp2
  go_end0
  exact ⟨rfl, rfl⟩
theorem page_copyCheck (B b : Nat) (bs : List Value) (i : Int) (w : World) (h : IsPage B b bs i w) :
    Calls Tryd.prog 43 #[.pointer (some ⟨b, 0, none⟩)] w fun e w' => e = .returned (.tuple #[]) ∧ (PageAt B b (.pointer (some ⟨b, 0, none⟩)) bs i w' ∧ Below B w w' ∧ Lib.OthersKept 5 (some b) w w') := by
  rcases h with h | h
  · obtain ⟨hB, v, hb, _⟩ := id h
    refine (page_copyCheck_fresh b w (by rw [Lib.cell_of_heap hb]; rfl) (by simp [World.shape?, hb]) (Lib.frozen_of_heap hb 0)).mono ?_
    rintro e w' ⟨rfl, rfl⟩
    exact ⟨rfl, h.used _, (Below.refl B w).setCell (p := ⟨b, 0, none⟩) h.1 _, (Lib.OthersKept.refl _ _ w).setCell ⟨b, 0, none⟩ rfl _⟩
  · obtain ⟨hB, v, hb, _⟩ := id h
    refine (page_copyCheck_used b w (by rw [Lib.cell_of_heap hb]; rfl)).mono ?_
    rintro e w' ⟨rfl, rfl⟩
    exact ⟨rfl, h, Below.refl B _, Lib.OthersKept.refl _ _ _⟩
theorem page_writeByte (B b : Nat) (bs : List Value) (i : Int) (c : Int) (w : World) (h : IsPage B b bs i w) (hlen : bs.length + 1 ≤ 140737488355328) (hBw : B ≤ w.heap.size) :
    Calls Tryd.prog 34 #[.pointer (some ⟨b, 0, none⟩), .int .u8 c] w fun e w' => e = .returned .nilIface ∧ (IsPage B b (bs ++ [.int .u8 c]) i w' ∧ Below B w w' ∧ Lib.OthersKept 5 (some b) w w') := by
  obtain ⟨i0, hi, hz0, hz1, hz2⟩ := info_parts infoByteP
  go_enter Tryd.func34, Tryd.ntmps34
  go_wp2_with (go_at_call 43; refine (page_copyCheck B b bs i _ h).mono ?_)
  rintro e w1 ⟨rfl, h1, hb1, hk1⟩
  obtain ⟨hB, v, hbk, hown, hne, hnil⟩ := h1
  have HN := Lib.hid hnil
  clear hnil
  have c0 : w1.cell? ⟨b, 0, none⟩ = some (.pointer (some ⟨b, 0, none⟩)) := by rw [Lib.cell_of_heap hbk]; rfl
  have c1 : w1.cell? ⟨b, 1, none⟩ = some v := by rw [Lib.cell_of_heap hbk]; rfl
  go_wp2_with (at_builtin; refine wpList_append_ownF _ rfl _ _ 39 rfl B 5 i0 (.int .u8 0) 1 1 Tryd.underlying39 hi hz0 hz1 hz2 rfl (by decide) _ _ _ rfl (hown.alloc _) ⟨w1.heap.size, 0, none⟩ 1 1 [.int .u8 c] rfl rfl ?c1 ?c2 ?c3 ?c4 ?c5 ?_)
  case c1 =>
    intro j u hj
    match j, hj with
    | 0, hj => simp at hj; subst hj; simp [Addr.add]
  case c2 => intro u hu; simp at hu; subst hu; rfl
  case c3 => unfold maxLen; omega
  case c4 => omega
  case c5 => have := hb1.size; simp; omega
  intro v' w2 hown' hgrow _
  have hlt : b < w1.heap.size := (Array.getElem?_eq_some_iff.1 hbk).1
  have hb2 : w2.heap[b]? = some (.cells #[.pointer (some ⟨b, 0, none⟩), v, .int .i64 i] 43 (0, 0)) := by
    rw [hgrow.block b (by simp; omega) (fun e => hne e.symm), Lib.alloc_old w1 _ b hlt]
    exact hbk
  have d0 : w2.cell? ⟨b, 0, none⟩ = some (.pointer (some ⟨b, 0, none⟩)) := by rw [Lib.cell_of_heap hb2]; rfl
  have d1 : w2.cell? ⟨b, 1, none⟩ = some v := by rw [Lib.cell_of_heap hb2]; rfl
  have f1 : w2.frozen? ⟨b, 1, none⟩ = false := Lib.frozen_of_heap hb2 1
  obtain ⟨g, cap, rfl⟩ : ∃ g cap, v' = .slice (some ⟨g, 0, none⟩) (bs.length + 1) cap := by
    rcases hown'.2 with ⟨_, h0⟩ | ⟨g, cap, cur, fz, hv, _⟩
    · omega
    · exact ⟨g, cap, hv⟩
  go_wp2
  go_ret
  refine ⟨rfl, .inr ?_, ?_, ((hk1.alloc _).grown hgrow (Lib.ownsRowF_kind (hown.alloc _))).setCell ⟨b, 1, none⟩ rfl _⟩
  · exact PageAt.put hB hb2 (bs' := bs ++ [.int .u8 c]) (by simpa using hown') (fun h => by simp at h)
  · exact ((hb1.alloc (by have := hb1.size; omega) _).grown hgrow (by have := hb1.size; simp; omega) (fun k hk => (hown.lt k hk).1)).setCell (p := ⟨b, 1, none⟩) hB _
theorem page_writeString (B b : Nat) (bs : List Value) (i : Int) (s : ByteArray) (w : World) (h : IsPage B b bs i w) (hlen : bs.length + s.size ≤ 140737488355328) (hBw : B ≤ w.heap.size) :
    Calls Tryd.prog 33 #[.pointer (some ⟨b, 0, none⟩), .string s] w fun e w' => e = .returned (.tuple #[.int .i64 s.size, .nilIface]) ∧ (IsPage B b (bs ++ Lib.strCells s) i w' ∧ Below B w w' ∧ Lib.OthersKept 5 (some b) w w') := by
  obtain ⟨i0, hi, hz0, hz1, hz2⟩ := info_parts infoByteP
  go_enter Tryd.func33, Tryd.ntmps33
  go_wp2_with (go_at_call 43; refine (page_copyCheck B b bs i _ h).mono ?_)
  rintro e w1 ⟨rfl, h1, hb1, hk1⟩
  obtain ⟨hB, v, hbk, hown, hne, hnil⟩ := h1
  have HN := Lib.hid hnil
  clear hnil
  have c0 : w1.cell? ⟨b, 0, none⟩ = some (.pointer (some ⟨b, 0, none⟩)) := by rw [Lib.cell_of_heap hbk]; rfl
  have c1 : w1.cell? ⟨b, 1, none⟩ = some v := by rw [Lib.cell_of_heap hbk]; rfl
  go_wp2_with (at_builtin; refine Lib.wpList_append_own_stringF _ rfl _ _ 39 9 rfl B 5 i0 Tryd.underlying39 Tryd.underlying9 hi hz0 hz1 hz2 _ _ _ rfl hown s rfl ?c3 ?c4 ?c5 ?_)
  case c3 => unfold maxLen; omega
  case c4 => omega
  case c5 => have := hb1.size; omega
  intro v' w2 hown' hgrow hv'
  have HV := Lib.hid hv'
  clear hv'
  have hlt : b < w1.heap.size := (Array.getElem?_eq_some_iff.1 hbk).1
  have hb2 : w2.heap[b]? = some (.cells #[.pointer (some ⟨b, 0, none⟩), v, .int .i64 i] 43 (0, 0)) := by
    rw [hgrow.block b hlt (fun e => hne e.symm)]
    exact hbk
  have d0 : w2.cell? ⟨b, 0, none⟩ = some (.pointer (some ⟨b, 0, none⟩)) := by rw [Lib.cell_of_heap hb2]; rfl
  have d1 : w2.cell? ⟨b, 1, none⟩ = some v := by rw [Lib.cell_of_heap hb2]; rfl
  have f1 : w2.frozen? ⟨b, 1, none⟩ = false := Lib.frozen_of_heap hb2 1
  obtain ⟨ao, n', cap, rfl⟩ : ∃ ao n' cap, v' = .slice ao n' cap := by
    rcases hown'.2 with ⟨hv, _⟩ | ⟨g, cap, cur, fz, hv, _⟩
    · exact ⟨_, _, _, hv⟩
    · exact ⟨_, _, _, hv⟩
  go_wp2
  go_ret2
  refine ⟨rfl, .inr ?_, ?_, (hk1.grown hgrow (Lib.ownsRowF_kind hown)).setCell ⟨b, 1, none⟩ rfl _⟩
  · refine PageAt.put hB hb2 (bs' := bs ++ Lib.strCells s) (by simpa [Lib.strCells_length] using hown') (fun h => HV.out.2 ?_)
    obtain ⟨h1, h2⟩ := List.append_eq_nil_iff.1 h
    have h3 : s.size = 0 := by rw [← Lib.strCells_length, h2]; rfl
    exact ⟨HN.out h1, ByteArray.ext (Array.eq_empty_of_size_eq_zero h3)⟩
  · exact (hb1.grown hgrow (by have := hb1.size; omega) (fun k hk => (hown.lt k hk).1)).setCell (p := ⟨b, 1, none⟩) hB _
theorem page_string (B b : Nat) (l : List UInt8) (i : Int) (w : World) (h : IsPage B b (Lib.byteCells l) i w) :
    Calls Tryd.prog 15 #[.pointer (some ⟨b, 0, none⟩)] w fun e w' => e = .returned (.string ⟨l.toArray⟩) ∧ Below B w w' := by
  obtain ⟨p, v, hB, hbk, hown, hne, hnil⟩ : ∃ p v, B ≤ b ∧ w.heap[b]? = some (.cells #[p, v, .int .i64 i] 43 (0, 0)) ∧ w.ownsRowF B 5 1 v (Lib.byteCells l).length (Lib.byteCells l) ∧ v.ownBlock ≠ some b ∧ (Lib.byteCells l = [] → v = .slice none 0 0) := by
    rcases h with ⟨hB, v, h⟩ | ⟨hB, v, h⟩
    · exact ⟨_, v, hB, h⟩
    · exact ⟨_, v, hB, h⟩
  clear h
  rw [Lib.byteCells_length] at hown
  by_cases h0 : l = []
  · subst h0
    obtain rfl := hnil rfl
    have hUS := fun (W : World) => Lib.run_unsafeString_none (P := Tryd.prog) W 60 3 9 none
    have c1 : w.drew.cell? ⟨b, 1, none⟩ = some (.slice none 0 0) := by
      have : w.drew.heap[b]? = some (.cells #[p, .slice none 0 0, .int .i64 i] 43 (0, 0)) := hbk
      rw [Lib.cell_of_heap this]; rfl
    have hSD : (Builtin.unsafeSliceData_ #[39] 60 #[.slice none 0 0]).run Tryd.prog w.drew = .ok (.pointer none) w.drew := rfl
    clear hnil hown
    go_enter Tryd.func15, Tryd.ntmps15
    go_wp2
    go_region
    all_goals (go_wp2; go_ret; exact ⟨rfl, Below.drew (Below.refl B w)⟩)
  · have hl0 : l.length ≠ 0 := by simpa using h0
    obtain ⟨g, cap, cur, fz, rfl, hbg, hg, hfz, hnc, hcm, hcs, htake⟩ : ∃ g cap cur fz, v = .slice (some ⟨g, 0, none⟩) l.length cap ∧ B ≤ g ∧ w.heap[g]? = some (.cells cur 5 fz) ∧ fz.2 ≤ l.length * 1 ∧ l.length ≤ cap ∧ cap ≤ maxLen ∧ cur.size = cap * 1 ∧ cur.toList.take (l.length * 1) = Lib.byteCells l := by
      rcases hown.2 with ⟨_, hz⟩ | ⟨g, cap, cur, fz, hv, r⟩
      · exact absurd hz hl0
      · exact ⟨g, cap, cur, fz, hv, r⟩
    have c1 : w.drew.cell? ⟨b, 1, none⟩ = some (.slice (some ⟨g, 0, none⟩) l.length cap) := by
      have : w.drew.heap[b]? = some (.cells #[p, .slice (some ⟨g, 0, none⟩) l.length cap, .int .i64 i] 43 (0, 0)) := hbk
      rw [Lib.cell_of_heap this]; rfl
    have hSD : (Builtin.unsafeSliceData_ #[39] 60 #[.slice (some ⟨g, 0, none⟩) l.length cap]).run Tryd.prog w.drew = .ok (.pointer (some ⟨g, 0, none⟩)) w.drew :=
      Lib.run_unsafeSliceData_row _ _ _ _ _ _ (by omega)
    have hUS : (Builtin.unsafeString_ #[60, 3] 9 #[.pointer (some ⟨g, 0, none⟩), .int .i64 l.length]).run Tryd.prog w.drew = .ok (.string ⟨l.toArray⟩) (w.drew.freeze ⟨g, 0, none⟩ l.length) := by
      refine Lib.run_unsafeString_row w.drew 60 3 9 5 Tryd.underlying60 cellsByte g cur.size (by have hg' : w.drew.heap[g]? = some (.cells cur 5 fz) := hg; simp [World.shape?, hg']) l h0 (by omega) (by unfold maxLen at hcm; omega) ?_
      intro j x hx
      have := hown.cells (g := g) rfl j (.int .u8 x.toNat) (by simp [Lib.byteCells, hx])
      exact this
    clear hnil hown hl0 h0 htake hcs
    go_enter Tryd.func15, Tryd.ntmps15
    go_wp2
    go_region
    all_goals (go_wp2; go_ret; exact ⟨rfl, Lib.below_freeze (Below.drew (Below.refl B w)) (p := ⟨g, 0, none⟩) hbg _⟩)
end
end Go.Proofs.YtkeehpgnljieeaaDoor
