/- The contracts of the closures that write operands. -/
import Derived.Test.YtgeagpplihecmaaDoorAsE
import Derived.Lib.AppendIntMem
namespace Go.Proofs.YtgeagpplihecmaaDoor
open Go.RowKit
open AS (Ins)
def powCells : Array Value := (Lib.pow10Tab.map fun z => Value.int .u64 z).toArray
def PowIs (w : World) : Prop := ∃ (t : TypeId) (fr : Nat × Nat), w.heap[2]? = some (.cells powCells t fr)
theorem gPow : Tryd.prog.globalNamed "internal/strconv.uint64pow10" = some 2 := by kernel_rfl
theorem PowIs.tab {w : World} (h : PowIs w) : Lib.TabIs Tryd.prog w "internal/strconv.uint64pow10" .u64 Lib.pow10Tab := by
  obtain ⟨t, fr, hb⟩ := h
  unfold Lib.TabIs World.var?
  rw [gPow]
  simp only [Option.bind_some, hb]
  rfl
theorem PowIs.lt {w : World} (h : PowIs w) : 2 < w.heap.size := by
  obtain ⟨t, fr, hb⟩ := h
  exact (Array.getElem?_eq_some_iff.1 hb).1
theorem PowIs.below {w w' : World} (h : PowIs w) (hb : Below w.heap.size w w') : PowIs w' := by
  have hlt := h.lt
  obtain ⟨t, fr, hc⟩ := h
  exact ⟨t, fr, (hb.block _ hlt).trans hc⟩
theorem itoa_any (n : Int) (h0 : -131072 ≤ n) (h1 : n ≤ 131071) (w : World) (hP : PowIs w) :
    Calls Tryd.prog 47 #[.int .i64 n] w fun e w' => e = .returned (.string ⟨(Lib.itoa n).toArray⟩) ∧ Below w.heap.size w w' := by
  refine (Tryd.strconv_Itoa n (by omega) (by omega) w hP.tab).mono ?_
  rintro e w' ⟨rfl, k, os, rfl⟩
  exact ⟨rfl, Lib.below_grow _ w (Nat.le_refl _) k os⟩
theorem cf_f1 (v : Value) (W : World) : Sem.run Tryd.prog (callFunc 43 #[v]) W = .ok (Next.enter 43 #[v]) W := by kernel_rfl
theorem cf_f2 (v : Value) (W : World) : Sem.run Tryd.prog (callFunc 44 #[v]) W = .ok (Next.enter 44 #[v]) W := by kernel_rfl
theorem cf_f3 (v : Value) (W : World) : Sem.run Tryd.prog (callFunc 45 #[v]) W = .ok (Next.enter 45 #[v]) W := by kernel_rfl
section
set_option maxHeartbeats 1000000
set_option maxRecDepth 100000
theorem wimm_any (i : Ins) (h0 : -131072 ≤ i.imm) (h1 : i.imm ≤ 131071) (w : World) (hP : PowIs w) : Calls Tryd.prog 46 #[.agg (insV i)] w fun e w' => e = .returned (.string ⟨(AS.word i 3).toArray⟩) ∧ Below w.heap.size w w' := by
  have hb1 : Below w.heap.size w (w.alloc (.cells (insV i) 48)) := (Below.refl _ _).alloc (Nat.le_refl _) _
  have HI := Lib.hid (itoa_any i.imm h0 h1 (w.alloc (.cells (insV i) 48)) (hP.below hb1))
  obtain ⟨x0, x1, x2, x3, x4⟩ := (Blk.new w 48 (insV i)).five
  have HB := Lib.hid hb1
  clear hb1 hP
  go_enter Tryd.func46, Tryd.ntmps46
  go_wp2_with fail
  refine HI.out.mono ?_
  rintro e w2 ⟨rfl, hb2⟩
  have HB2 := Lib.hid (HB.out.trans (hb2.mono HB.out.size))
  clear hb2
  go_wp2_with fail
  go_ret
  exact ⟨rfl, HB2.out⟩
theorem wreg_any (i : Ins) (k g : Nat) (hk : k ≤ 2) (h0 : -131072 ≤ i.get k) (h1 : i.get k ≤ 131071) (w : World) (hP : PowIs w) (hg : RegAt w k g) : Calls Tryd.prog 61 #[.agg (insV i), .pointer (some ⟨g, 0, none⟩)] w fun e w' => e = .returned (.string ⟨(AS.word i k).toArray⟩) ∧ Below w.heap.size w w' := by
  have hc1 := fun v W => cf_f1 v W
  have hc2 := fun v W => cf_f2 v W
  have hc3 := fun v W => cf_f3 v W
  have hb1 : Below w.heap.size w (w.alloc (.cells (insV i) 48)) := (Below.refl _ _).alloc (Nat.le_refl _) _
  have HI := Lib.hid (itoa_any (i.get k) h0 h1 (w.alloc (.cells (insV i) 48)) (hP.below hb1))
  have hbk := Blk.new w 48 (insV i)
  have hx := hbk.cell (k + 1)
  have HL := AS.itoa_len h0 h1
  have HW : AS.word i k = 114 :: Lib.itoa (i.get k) := by unfold AS.word; rw [if_neg (by omega)]
  rw [HW]
  have hc := (hg hk).alloc (.cells (insV i) 48)
  have HB := Lib.hid hb1
  clear hb1 hP hbk HW
  generalize hIT : Lib.itoa (i.get k) = it at *
  have hcat : (⟨#[114]⟩ : ByteArray) ++ ⟨it.toArray⟩ = ⟨(114 :: it).toArray⟩ := by
    apply ByteArray.ext
    simp
  have hk3 : k = 0 ∨ k = 1 ∨ k = 2 := by omega
  rcases hk3 with rfl | rfl | rfl
  · have c0 : (w.alloc (.cells (insV i) 48)).cell? ⟨g, 0, none⟩ = some (.func (.func 43) #[] #[]) := hc.cell 0
    have hxy : (w.alloc (.cells (insV i) 48)).cell? ⟨w.heap.size, 1, none⟩ = some (.int .i64 i.a) := hx
    clear hx hc hg
    go_enter Tryd.func61, Tryd.ntmps61
    go_wp2_with fail
    refine (fieldf_any 0 _ (by omega) _ _ rfl).mono ?_
    rintro e w2 ⟨rfl, rfl⟩
    go_wp2_with fail
    refine HI.out.mono ?_
    rintro e w2 ⟨rfl, hb2⟩
    have HB2 := Lib.hid (HB.out.trans (hb2.mono HB.out.size))
    clear hb2 hxy c0
    go_wp2_with fail
    go_ret
    exact ⟨rfl, HB2.out⟩
  · have c0 : (w.alloc (.cells (insV i) 48)).cell? ⟨g, 0, none⟩ = some (.func (.func 44) #[] #[]) := hc.cell 0
    have hxy : (w.alloc (.cells (insV i) 48)).cell? ⟨w.heap.size, 2, none⟩ = some (.int .i64 i.b) := hx
    clear hx hc hg
    go_enter Tryd.func61, Tryd.ntmps61
    go_wp2_with fail
    refine (fieldf_any 1 _ (by omega) _ _ rfl).mono ?_
    rintro e w2 ⟨rfl, rfl⟩
    go_wp2_with fail
    refine HI.out.mono ?_
    rintro e w2 ⟨rfl, hb2⟩
    have HB2 := Lib.hid (HB.out.trans (hb2.mono HB.out.size))
    clear hb2 hxy c0
    go_wp2_with fail
    go_ret
    exact ⟨rfl, HB2.out⟩
  · have c0 : (w.alloc (.cells (insV i) 48)).cell? ⟨g, 0, none⟩ = some (.func (.func 45) #[] #[]) := hc.cell 0
    have hxy : (w.alloc (.cells (insV i) 48)).cell? ⟨w.heap.size, 3, none⟩ = some (.int .i64 i.c) := hx
    clear hx hc hg
    go_enter Tryd.func61, Tryd.ntmps61
    go_wp2_with fail
    refine (fieldf_any 2 _ (by omega) _ _ rfl).mono ?_
    rintro e w2 ⟨rfl, rfl⟩
    go_wp2_with fail
    refine HI.out.mono ?_
    rintro e w2 ⟨rfl, hb2⟩
    have HB2 := Lib.hid (HB.out.trans (hb2.mono HB.out.size))
    clear hb2 hxy c0
    go_wp2_with fail
    go_ret
    exact ⟨rfl, HB2.out⟩
/-- What a reader of an operand leaves. -/
def RdEnd (w : World) (b k : Nat) (o : Option Int) (e : Ending) (w' : World) : Prop :=
  e = .returned (.bool o.isSome) ∧ (∀ v, o = some v → w' = w.setCell ⟨b, k + 1, none⟩ (.int .i64 v)) ∧ (o = none → w' = w ∨ ∃ u, w' = w.setCell ⟨b, k + 1, none⟩ u)
theorem rimm_any (i : Ins) (b : Nat) (s : ByteArray) (w : World) (hb : Blk w b 48 (insV i)) : Calls Tryd.prog 48 #[.pointer (some ⟨b, 0, none⟩), .string s] w (RdEnd w b 3 (AS.num s.data.toList)) := by
  have HN := Lib.hid (number_any s w)
  have c4 : w.cell? ⟨b, 4, none⟩ = some (.int .i64 i.imm) := hb.cell 4
  have f4 := hb.frozen 4
  clear hb
  generalize AS.num s.data.toList = R at *
  go_enter Tryd.func48, Tryd.ntmps48
  go_wp2_with fail
  refine HN.out.mono ?_
  rintro e w1 ⟨rfl, rfl⟩
  go_wp2_with fail
  go_ret
  refine ⟨rfl, fun v hv => ?_, fun _ => .inr ⟨_, rfl⟩⟩
  rw [hv]; rfl
theorem rreg_any (i : Ins) (b k g : Nat) (hk : k ≤ 2) (s : ByteArray) (w : World) (hb : Blk w b 48 (insV i)) (hg : RegAt w k g) : Calls Tryd.prog 62 #[.pointer (some ⟨b, 0, none⟩), .string s, .pointer (some ⟨g, 0, none⟩)] w (RdEnd w b k (AS.reg s.data.toList)) := by
  have hc1 := fun v W => cf_f1 v W
  have hc2 := fun v W => cf_f2 v W
  have hc3 := fun v W => cf_f3 v W
  have hnot : ∀ (x : Bool) (w : World), (Op.unary .not (.bool x)).run Tryd.prog w = .ok (.bool (!x)) w := fun _ _ => rfl
  have HCP := Lib.hid (Tryd.strings_CutPrefix s ⟨#[114]⟩ w)
  have ht : Lib.trimPrefix s.data.toList [114] = if s.data.toList.head? = some 114 then s.data.toList.tail else s.data.toList := by
    cases s.data.toList with
    | nil => decide
    | cons c l =>
      by_cases h : c = 114
      · subst h; simp [Lib.trimPrefix, Lib.hasPrefix]
      · simp [Lib.trimPrefix, Lib.hasPrefix, h, List.isPrefixOf, Ne.symm h]
  have hh : Lib.hasPrefix s.data.toList [114] = decide (s.data.toList.head? = some 114) := by
    cases s.data.toList with
    | nil => decide
    | cons c l =>
      by_cases h : c = 114
      · subst h; simp [Lib.hasPrefix]
      · simp [Lib.hasPrefix, h, List.isPrefixOf, Ne.symm h]
  rw [show (⟨#[114]⟩ : ByteArray).data.toList = [114] from rfl, ht, hh] at HCP
  have hreg : AS.reg s.data.toList = if s.data.toList.head? = some 114 ∧ s.data.toList.tail.head? ≠ some 45 then AS.num s.data.toList.tail else none := rfl
  generalize hD : (⟨(if s.data.toList.head? = some 114 then s.data.toList.tail else s.data.toList).toArray⟩ : ByteArray) = D at *
  have HN := Lib.hid (number_any D w)
  have HHP := Lib.hid (Tryd.strings_HasPrefix D ⟨#[45]⟩ w)
  rw [show (⟨#[45]⟩ : ByteArray).data.toList = [45] from rfl, (digs_trim D.data.toList).2] at HHP
  have hDl : D.data.toList = if s.data.toList.head? = some 114 then s.data.toList.tail else s.data.toList := by rw [← hD]
  have hcell : ∃ u, w.cell? ⟨b, k + 1, none⟩ = some u := by
    rw [hb.cell]
    have : k = 0 ∨ k = 1 ∨ k = 2 := by omega
    rcases this with rfl | rfl | rfl <;> exact ⟨_, rfl⟩
  obtain ⟨u, hcell⟩ := hcell
  have hfr := hb.frozen (k + 1)
  have hG := hg hk
  clear hb hg hD ht hh
  generalize AS.reg s.data.toList = R at *
  by_cases h1 : s.data.toList.head? = some 114
  · rw [if_pos h1] at hDl
    have e1 : decide (s.data.toList.head? = some 114) = true := by simp [h1]
    rw [e1] at HCP
    rw [← hDl] at hreg
    cases hn : AS.num D.data.toList with
    | none =>
      have hR : R = none := by rw [hreg, hn]; split <;> rfl
      rw [hn] at HN
      rw [hR]
      go_enter Tryd.func62, Tryd.ntmps62
      go_wp2_with fail
      refine HCP.out.mono ?_
      rintro e w1 ⟨rfl, rfl⟩
      go_wp2_with fail
      refine HN.out.mono ?_
      rintro e w1 ⟨rfl, rfl⟩
      go_wp2_with fail
      go_ret
      exact ⟨rfl, fun v h => (by cases h), fun _ => .inl rfl⟩
    | some v =>
      rw [hn] at HN hreg
      by_cases h2 : D.data.toList.head? = some 45
      · have hR : R = none := by rw [hreg, if_neg (fun h => h.2 h2)]
        rw [hR]
        have e2 : decide (D.data.toList.head? = some 45) = true := by simp [h2]
        rw [e2] at HHP
        go_enter Tryd.func62, Tryd.ntmps62
        go_wp2_with fail
        refine HCP.out.mono ?_
        rintro e w1 ⟨rfl, rfl⟩
        go_wp2_with fail
        refine HN.out.mono ?_
        rintro e w1 ⟨rfl, rfl⟩
        go_wp2_with fail
        refine HHP.out.mono ?_
        rintro e w1 ⟨rfl, rfl⟩
        go_wp2_with fail
        go_ret
        exact ⟨rfl, fun v h => (by cases h), fun _ => .inl rfl⟩
      · have hR : R = some v := by rw [hreg, if_pos ⟨h1, h2⟩]
        rw [hR]
        have e2 : decide (D.data.toList.head? = some 45) = false := by simp [h2]
        rw [e2] at HHP
        have fin : ∀ f : FuncId, fnF k = .func (.func f) #[] #[] → w.cell? ⟨g, 0, none⟩ = some (.func (.func f) #[] #[]) := fun f hf => by rw [hG.cell 0, ← hf]; rfl
        have hk3 : k = 0 ∨ k = 1 ∨ k = 2 := by omega
        rcases hk3 with rfl | rfl | rfl
        · have c0 := fin _ rfl
          clear fin hG
          go_enter Tryd.func62, Tryd.ntmps62
          go_wp2_with fail
          refine HCP.out.mono ?_
          rintro e w1 ⟨rfl, rfl⟩
          go_wp2_with fail
          refine HN.out.mono ?_
          rintro e w1 ⟨rfl, rfl⟩
          go_wp2_with fail
          refine HHP.out.mono ?_
          rintro e w1 ⟨rfl, rfl⟩
          go_wp2_with fail
          refine (fieldf_any 0 _ (by omega) _ _ rfl).mono ?_
          rintro e w1 ⟨rfl, rfl⟩
          go_wp2_with fail
          go_ret
          exact ⟨rfl, fun v h => by injection h with h; rw [h], fun h => by cases h⟩
        · have c0 := fin _ rfl
          clear fin hG
          go_enter Tryd.func62, Tryd.ntmps62
          go_wp2_with fail
          refine HCP.out.mono ?_
          rintro e w1 ⟨rfl, rfl⟩
          go_wp2_with fail
          refine HN.out.mono ?_
          rintro e w1 ⟨rfl, rfl⟩
          go_wp2_with fail
          refine HHP.out.mono ?_
          rintro e w1 ⟨rfl, rfl⟩
          go_wp2_with fail
          refine (fieldf_any 1 _ (by omega) _ _ rfl).mono ?_
          rintro e w1 ⟨rfl, rfl⟩
          go_wp2_with fail
          go_ret
          exact ⟨rfl, fun v h => by injection h with h; rw [h], fun h => by cases h⟩
        · have c0 := fin _ rfl
          clear fin hG
          go_enter Tryd.func62, Tryd.ntmps62
          go_wp2_with fail
          refine HCP.out.mono ?_
          rintro e w1 ⟨rfl, rfl⟩
          go_wp2_with fail
          refine HN.out.mono ?_
          rintro e w1 ⟨rfl, rfl⟩
          go_wp2_with fail
          refine HHP.out.mono ?_
          rintro e w1 ⟨rfl, rfl⟩
          go_wp2_with fail
          refine (fieldf_any 2 _ (by omega) _ _ rfl).mono ?_
          rintro e w1 ⟨rfl, rfl⟩
          go_wp2_with fail
          go_ret
          exact ⟨rfl, fun v h => by injection h with h; rw [h], fun h => by cases h⟩
  · rw [if_neg (fun h => h1 h.1)] at hreg
    rw [hreg]
    have e1 : decide (s.data.toList.head? = some 114) = false := by simp [h1]
    rw [e1] at HCP
    generalize AS.num D.data.toList = R2 at *
    go_enter Tryd.func62, Tryd.ntmps62
    go_wp2_with fail
    refine HCP.out.mono ?_
    rintro e w1 ⟨rfl, rfl⟩
    go_wp2_with fail
    refine HN.out.mono ?_
    rintro e w1 ⟨rfl, rfl⟩
    go_wp2_with fail
    go_ret
    exact ⟨rfl, fun v h => (by cases h), fun _ => .inl rfl⟩
end
end Go.Proofs.YtgeagpplihecmaaDoor
