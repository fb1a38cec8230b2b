/- ast.Clone: a copy of a tree in memory of its own. -/
import Derived.Test.YtkeehpgnljieeaaDoorKD
namespace Go.Proofs.YtkeehpgnljieeaaDoor
open Go.RowKit Go.Maps
open PP (Tree)
section
set_option maxHeartbeats 2000000
set_option maxRecDepth 100000
theorem own_belowW {w wr : World} {base : Nat} {e : TypeId} {size : Nat} {v : Value} {n : Nat} {xs : List Value} {w2 : World} (h : wr.ownsRow base e size v n xs) (hb : Below wr.heap.size wr w2) (_ : w.heap.size ≤ wr.heap.size) : w2.ownsRow base e size v n xs := by
  refine ⟨h.1, ?_⟩
  rcases h.2 with hn | ⟨g, cap, cur, rfl, hb', hgg, rest⟩
  · exact .inl hn
  · exact .inr ⟨g, cap, cur, rfl, hb', (hb.block g (Array.getElem?_eq_some_iff.1 hgg).1).trans hgg, rest⟩
/-- What a copy of a row of trees has come to. -/
def CloneRel (kids : List Tree) (w0 : World) (v i : Value) (wr : World) : Prop :=
  ∃ (j : Nat) (els : List NodeE), j ≤ kids.length ∧ i = .int .i64 (j : Int) ∧ els.map NodeE.tree = kids.take j ∧ Below w0.heap.size w0 wr ∧ wr.ownsRow w0.heap.size 24 4 v els.length (nodesCells els) ∧
    (∀ x ∈ els, KidsC wr (fun g => w0.heap.size ≤ g ∧ v.ownBlock ≠ some g) x.A x.kids)
theorem clone_step {w0 wr w2 w3 w4 : World} {v v4 : Value} {els : List NodeE} {x : NodeE} {o : Obj} {g : Nat}
    (hb : Below w0.heap.size w0 wr) (hown : wr.ownsRow w0.heap.size 24 4 v els.length (nodesCells els))
    (hk : ∀ x ∈ els, KidsC wr (fun g => w0.heap.size ≤ g ∧ v.ownBlock ≠ some g) x.A x.kids) (h2 : Below wr.heap.size wr w2) (hx : KidsC w2 (wr.heap.size ≤ ·) x.A x.kids)
    (h3 : w3 = w2.alloc o)
    (hown4 : w4.ownsRow w0.heap.size 24 4 v4 (els.length + 1) (nodesCells els ++ x.cells)) (hg4 : w3.grownBy w4 v.ownBlock) (hat : v.ownBlock = some g ∨ g = w2.heap.size + 1) (hv4 : v4.ownBlock = some g) :
    Below w0.heap.size w0 w4 ∧ w4.ownsRow w0.heap.size 24 4 v4 (els ++ [x]).length (nodesCells (els ++ [x])) ∧ ∀ y ∈ els ++ [x], KidsC w4 (fun g => w0.heap.size ≤ g ∧ v4.ownBlock ≠ some g) y.A y.kids := by
  subst h3
  have hvr : ∀ k, v.ownBlock = some k → w0.heap.size ≤ k ∧ k < wr.heap.size := fun k hk => hown.lt k hk
  have hs1 := hb.size
  have hs2 := h2.size
  refine ⟨?_, ?_, ?_⟩
  · exact ((hb.trans (h2.mono hs1)).alloc (by omega) o).grown hg4 (by simp; omega) (fun k hk => (hvr k hk).1)
  · rw [nodesCells_snoc, List.length_append]; exact hown4
  · have kp : ∀ Z : Nat → Prop, (∀ k, Z k → v.ownBlock ≠ some k) → Keep Z (w2.alloc o) w4 := fun Z hz => ⟨hg4.size, fun k hk hlt => hg4.block k hlt (fun e => hz k hk e.symm)⟩
    intro y hy
    rcases List.mem_append.1 hy with hy | hy
    · have h1 := (hk y hy).weak (Z' := fun k => w0.heap.size ≤ k ∧ v.ownBlock ≠ some k ∧ k ≠ g ∧ k < wr.heap.size) (fun k hk hlt => ⟨hk.1, hk.2, by
        rintro rfl
        rcases hat with h | h
        · exact hk.2 h
        · omega, hlt⟩)
      have h2' := h1.keep ⟨h2.size, fun k hk hlt => h2.block k hlt⟩
      have h3 := h2'.keep (((Keep.refl _ _).alloc o).trans (kp _ (fun k hk => hk.2.1)))
      refine h3.weak (fun k hk _ => ⟨hk.1, ?_⟩)
      rw [hv4]; intro e; injection e with e; exact hk.2.2.1 e.symm
    · simp only [List.mem_cons, List.not_mem_nil, or_false] at hy
      subst hy
      have h1 := hx.weak (Z' := fun k => w0.heap.size ≤ k ∧ v.ownBlock ≠ some k ∧ k ≠ g) (fun k hk hlt => by
        have hk' : wr.heap.size ≤ k := hk
        refine ⟨by omega, fun e => ?_, ?_⟩
        · have := (hvr k e).2; omega
        · rintro rfl
          rcases hat with h | h
          · have := (hvr k h).2; omega
          · omega)
      have h3 := h1.keep (((Keep.refl _ _).alloc o).trans (kp _ (fun k hk => hk.2.1)))
      refine h3.weak (fun k hk _ => ⟨hk.1, ?_⟩)
      rw [hv4]; intro e; injection e with e; exact hk.2.2 e.symm
attribute [local go_sem ↓] Go.wp_at_zero Go.wp_at_succ
theorem clone_kids {w : World} {Z : Nat → Prop} {A : Option Addr} {kids : List Tree} (h : KidsC w Z A kids) : ∀ W, Keep Z w W → ∀ (k : Nat) (num : Int) (nm : List UInt8) (c : Nat), PP.sizeL kids ≤ 1000000 →
    Calls Tryd.prog 16 #[.agg #[.int .u8 (k : Int), .int .i64 num, .string ⟨nm.toArray⟩, .slice A kids.length c]] W fun e w' =>
      ∃ A' c', e = .returned (.agg #[.int .u8 (k : Int), .int .i64 num, .string ⟨nm.toArray⟩, .slice A' kids.length c']) ∧ KidsC w' (W.heap.size ≤ ·) A' kids ∧ Below W.heap.size W w' := by
  induction h with
  | mk A kids g o K N S AA C KS hA hk hc hh ih =>
    intro W hkeep k num nm c hsz
    obtain ⟨i0, hi, hz0, hz1, hz2⟩ := info_parts infoNode
    have hlen := PP.len_sizeL kids
    have HIH := Lib.hid ih
    have HKP := Lib.hid hkeep
    have HHK := Lib.hid hk
    have HHC := Lib.hid hc
    have HHA := Lib.hid hA
    have HI := Lib.hid hi
    have HZ0 := Lib.hid hz0
    have HZ1 := Lib.hid hz1
    have HZ2 := Lib.hid hz2
    clear ih hkeep hk hc hh hA hi hz0 hz1 hz2
    generalize hw0 : (W.alloc (.cells #[.int .u8 (k : Int), .int .i64 num, .string ⟨nm.toArray⟩, .slice A kids.length c] 24)).alloc (.cells #[.int .u8 0, .int .i64 0, .string ⟨#[]⟩, .slice none 0 0] 24) = w0
    have hb0 : Below W.heap.size W w0 := by rw [← hw0]; exact ((Below.refl _ _).alloc (Nat.le_refl _) _).alloc (by simp) _
    have hs0 : w0.heap.size = W.heap.size + 2 := by rw [← hw0]; simp
    have hB : Blk w0 W.heap.size 24 #[.int .u8 (k : Int), .int .i64 num, .string ⟨nm.toArray⟩, .slice A kids.length c] := by rw [← hw0]; exact (Blk.new _ _ _).alloc _
    have hR : Blk w0 (W.heap.size + 1) 24 #[.int .u8 0, .int .i64 0, .string ⟨#[]⟩, .slice none 0 0] := by rw [← hw0]; have := Blk.new (W.alloc (.cells #[.int .u8 (k : Int), .int .i64 num, .string ⟨nm.toArray⟩, .slice A kids.length c] 24)) 24 #[.int .u8 0, .int .i64 0, .string ⟨#[]⟩, .slice none 0 0]; simpa using this
    have HW0 := Lib.hid hw0
    have HS0 := Lib.hid hs0
    clear hw0 hs0
    go_enter Tryd.func16, Tryd.ntmps16
    go_wp2_with fail
    rw [HW0.out]
    go_loopw [3, 9] (fun v i wr => CloneRel kids w0 v i wr) (fun _ i _ => kids.length - (intOf i).toNat)
    case atStart => exact ⟨0, [], Nat.zero_le _, rfl, by simp, Below.refl _ _, World.ownsRow_nil _ _ _ _, fun _ hx => by simp at hx⟩
    case round =>
      obtain ⟨j, els, hj, rfl, hmap, hbr, hown, hk⟩ := hrel
      have hBr : Blk wr W.heap.size 24 #[.int .u8 (k : Int), .int .i64 num, .string ⟨nm.toArray⟩, .slice A kids.length c] := (hbr.block _ hB.lt).trans hB
      have hel : els.length = j := by have := congrArg List.length hmap; simpa [Nat.min_eq_left hj] using this
      have HMAP := Lib.hid hmap
      have HBR := Lib.hid hbr
      have HOW := Lib.hid hown
      have HK := Lib.hid hk
      have HBR2 := Lib.hid hBr
      have HEL := Lib.hid hel
      clear hmap hown hk hbr hel
      by_cases hlt : j < kids.length
      · obtain ⟨hA1, hA2, hA3⟩ := HHA.out (by intro e; rw [e] at hlt; simp at hlt)
        obtain ⟨c0, c1, c2, c3⟩ := HHC.out j hlt
        have hkj := HHK.out j hlt
        have hkp : Keep Z w wr := HKP.out.trans ⟨Nat.le_trans hb0.size HBR.out.size, fun g _ hg => (HBR.out.block g (Nat.lt_of_lt_of_le hg hb0.size)).trans (hb0.block g hg)⟩
        have hbg := hkp.2 g hA2 hA3
        have d0 := (World.cell?_of_block (a := ⟨g, o + j * 4, none⟩) hbg).trans c0
        have d1 := (World.cell?_of_block (a := ⟨g, o + j * 4 + 1, none⟩) hbg).trans c1
        have d2 := (World.cell?_of_block (a := ⟨g, o + j * 4 + 2, none⟩) hbg).trans c2
        have d3 := (World.cell?_of_block (a := ⟨g, o + j * 4 + 3, none⟩) hbg).trans c3
        have hjs := PP.size_mem (List.mem_of_getElem? hkj)
        have hks : PP.sizeL (KS j) ≤ 1000000 := by simp only [PP.Tree.size] at hjs; omega
        have hcall := HIH.out j hlt (wr.alloc (.cells #[.int .u8 (K j : Int), .int .i64 (N j), .string ⟨(S j).toArray⟩, .slice (AA j) (KS j).length (C j)] 24)) (hkp.alloc _) (K j) (N j) (S j) (C j) hks
        have HC := Lib.hid hcall
        have HKJ := Lib.hid hkj
        subst hA1
        have p1 : (0 : Int) ≤ (j : Int) := by omega
        have p2 : (j : Int) < (kids.length : Int) := by omega
        clear hcall hkp hbg c0 c1 c2 c3 hkj hjs hA2 hA3 hBr
        go_wp2_with fail
        refine HC.out.mono ?_
        rintro e w2 ⟨A2, c2', rfl, hk2, hb2⟩
        have hb3 : Below wr.heap.size wr w2 := ((Below.refl wr.heap.size wr).alloc (Nat.le_refl _) _).trans (hb2.mono (by simp))
        have HK2 := Lib.hid (hk2.weak (Z' := (wr.heap.size ≤ ·)) (fun g hg _ => by simp at hg; omega))
        have HB3 := Lib.hid hb3
        have hs3 := hb3.size
        have hs4 := HBR.out.size
        have HOW3 := Lib.hid ((own_belowW (w := w0) HOW.out hb3 HBR.out.size).alloc (.cells #[.int .u8 (K j : Int), .int .i64 (N j), .string ⟨(S j).toArray⟩, .slice A2 (KS j).length c2'] 24))
        have hle : els.length ≤ 1000000 := by have := HEL.out; omega
        clear hb2 hk2 hb3 d0 d1 d2 d3
        go_wp2_with (at_builtin; refine wpList_append_lies _ rfl _ _ 22 rfl w0.heap.size 24 i0 (.agg #[.int .u8 0, .int .i64 0, .string ⟨#[]⟩, .slice none 0 0]) 4 56 Tryd.underlying22 HI.out HZ0.out HZ1.out HZ2.out rfl (by decide) _ _ _ rfl HOW3.out ⟨w2.heap.size, 0, none⟩ 1 1 [.int .u8 (K j : Int), .int .i64 (N j), .string ⟨(S j).toArray⟩, .slice A2 (KS j).length c2'] rfl rfl ?c1 ?c2 (by decide) ?c3 ?c4 ?c5 (w2.heap.size + 1) ?c6 ?_)
        case c1 => exact World.news_of_block (heap_alloc_new w2 _)
        case c2 => intro u hu; simp at hu; rcases hu with rfl | rfl | rfl | rfl <;> rfl
        case c3 => unfold maxLen; omega
        case c4 => omega
        case c5 => simp; omega
        case c6 => simp
        intro g4 cap w4 hown4 hg4 hat hlt4
        have HS := Lib.hid (clone_step (v4 := .slice (some ⟨g4, 0, none⟩) (els.length + 1) cap) (x := ⟨K j, N j, S j, A2, c2', KS j⟩) HBR.out HOW.out HK.out HB3.out HK2.out rfl hown4 hg4 hat rfl)
        clear hown4 hg4 hat
        go_wp2_with fail
        go_roundw
        case rel =>
          obtain ⟨q1, q2, q3⟩ := HS.out
          refine ⟨j + 1, els ++ [⟨K j, N j, S j, A2, c2', KS j⟩], by omega, by go_num, ?_, q1, ?_, q3⟩
          · rw [List.map_append, HMAP.out, take_at HKJ.out]; rfl
          · simpa using q2
        case measure => simp [intOf]; omega
      · have hj' : j = kids.length := by omega
        subst hj'
        have hs4 := HBR.out.size
        have hRr : Blk wr (W.heap.size + 1) 24 #[.int .u8 0, .int .i64 0, .string ⟨#[]⟩, .slice none 0 0] := (HBR.out.block _ hR.lt).trans hR
        obtain ⟨A', c', hv, hkk⟩ := kids_of_row HOW.out (fun x hx => (HK.out x hx).weak (Z' := fun g => w0.heap.size ≤ g) (fun g hg _ => hg.1)) (Z := fun g => w0.heap.size ≤ g) (fun g hg => (HOW.out.lt g hg).1)
        rw [HMAP.out, List.take_length] at hv hkk
        have HKK := Lib.hid hkk
        have hs0 := HS0.out
        have HRR := Lib.hid hRr
        clear hkk hRr
        subst hv
        obtain ⟨⟨x0, x1, x2, x3⟩, f0, f1, f2, f3⟩ := HBR2.out.four
        obtain ⟨⟨y0, y1, y2, y3⟩, f4, f5, f6, f7⟩ := HRR.out.four
        go_wp2_with fail
        refine bodyPost_ret (node_result rfl rfl ((HRR.out.far (p := ⟨W.heap.size, 3, none⟩) (by simp) _).st4 _ _ _ _)) rfl ?_
        refine ⟨A', c', rfl, ?_, ?_⟩
        · exact (HKK.out.keep (((Keep.refl _ _).set (p := ⟨W.heap.size, 3, none⟩) (by simp; omega) _).st4 (by simp; omega) _ _ _ _)).weak (fun g hg _ => by have hg' : w0.heap.size ≤ g := hg; omega)
        · have e1 := hb0.trans (HBR.out.mono hb0.size)
          exact (((((e1.setCell (p := ⟨W.heap.size, 3, none⟩) (Nat.le_refl _) _).setCell (p := ⟨W.heap.size + 1, 0, none⟩) (by simp) _).setCell (p := ⟨W.heap.size + 1, 1, none⟩) (by simp) _).setCell (p := ⟨W.heap.size + 1, 2, none⟩) (by simp) _).setCell (p := ⟨W.heap.size + 1, 3, none⟩) (by simp) _)
end
end Go.Proofs.YtkeehpgnljieeaaDoor
