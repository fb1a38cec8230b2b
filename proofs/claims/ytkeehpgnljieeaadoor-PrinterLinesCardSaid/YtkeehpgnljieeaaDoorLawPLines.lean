/- The walk of PrinterLines. -/
import Derived.Test.YtkeehpgnljieeaaDoorWkC
import Derived.Test.YtkeehpgnljieeaaDoorPlainLines
import Derived.Test.YtkeehpgnljieeaaDoorLawParens14
namespace Go.Proofs.YtkeehpgnljieeaaDoor
open Go.RowKit
open PP (Tree)
def lnS : List Nat → Nat
  | [] => 0
  | k :: l => PP.lnC k + lnS l
theorem lnS_app (a b : List Nat) : lnS (a ++ b) = lnS a + lnS b := by
  induction a with
  | nil => simp [lnS]
  | cons x a ih => simp only [List.cons_append, lnS, ih]; omega
mutual
theorem lnS_T : ∀ t : Tree, lnS (kindsT t) = PP.stm t
  | .node _ _ _ l => by rw [kindsT, lnS, PP.stm, lnS_L l]
theorem lnS_L : ∀ l : List Tree, lnS (kindsL l) = PP.stmL l
  | [] => rfl
  | t :: l => by rw [kindsL, PP.stmL, lnS_app, lnS_T t, lnS_L l]
end
theorem walk_seq {w : World} {Z : Nat → Prop} {B R : Nat} (hZ : ¬ Z B) {A : Option Addr} {kids : List Tree} {k c : Nat} {num : Int} {nm : List UInt8} (h : KidsC w Z A kids)
    (hR : Blk w R 24 #[.int .u8 (k : Int), .int .i64 num, .string ⟨nm.toArray⟩, .slice A kids.length c]) (hB : B < w.heap.size) (hs : (Tree.node k num nm kids).size ≤ 1000000) (hd : (Tree.node k num nm kids).depth ≤ 1000000) :
    ∀ (l : Nat) (J : List YArg → World → Prop) (W : World), Below w.heap.size w W → AbidesFrom W.heap.size J →
      (∀ m pre x W1, J pre W1 → pre.length < (Tree.node k num nm kids).size → YieldAt Fence.wide m Tryd.prog l x.encs W1 fun e W' => e = .returned (.bool true) ∧ J (pre ++ [x]) W' ∧ KpC B W1 W') → J [] W →
      Calls Tryd.prog 17 (#[.func (.yield l) #[] #[]] ++ #[.pointer (some ⟨R, 0, none⟩)]) W fun e W' => (∃ v, e = .returned v) ∧ ∃ xs : List YArg, xs.map (·.k) = kindsT (.node k num nm kids) ∧ J xs W' :=
  fun _ _ _ hb hJ hY h0 => iter_any hZ hJ (fun m pre x W1 hj hl => (hY m pre x W1 hj hl).mono (fun _ _ h => ⟨true, h.1, fun _ => h.2, fun h' => (by cases h')⟩)) (h.keep ⟨hb.size, fun g _ hlt => hb.block g hlt⟩) (hR.below hb) (Nat.lt_of_lt_of_le hB hb.size) h0 (Nat.le_refl _) hs hd
/-- What the range knows: the count so far. -/
def LinesI (w : World) (B : Nat) (pre : List YArg) (W : World) : Prop := Blk W B 3 #[.int .i64 (lnS (pre.map (·.k)) : Int)] ∧ Below w.heap.size w W
theorem blk_own {X Y : World} {g : Nat} {t : TypeId} {cs : Array Value} {row : Option Nat} (h : Blk X g t cs) (hg : X.grownBy Y row) (hr : ∀ r, row = some r → ∃ o : Obj, X.heap[r]? = some o ∧ o.isCells = false) : Blk Y g t cs :=
  (hg.block g h.lt (fun e => by obtain ⟨o, ho, hc⟩ := hr g e.symm; rw [show X.heap[g]? = _ from h] at ho; cases ho; cases hc)).trans h
theorem linesI_own {w : World} {B n : Nat} (_ : B ≤ B) (hn : w.heap.size ≤ n) : OwnFrom n (LinesI w B) := fun _ _ _ _ hs hg hr =>
  ⟨blk_own hs.1 hg (fun r e => (hr r e).2), hs.2.grown hg hs.2.size (fun k e => Nat.le_trans hn (hr k e).1)⟩
theorem linesI_alloc {w : World} {B : Nat} {pre : List YArg} {W : World} (h : LinesI w B pre W) (_ : w.heap.size ≤ B) (o : Obj) : LinesI w B pre (W.alloc o) := ⟨h.1.alloc o, h.2.alloc h.2.size o⟩
theorem lnS_le : ∀ l : List Nat, lnS l ≤ 3 * l.length
  | [] => Nat.le_refl _
  | k :: l => by
    have := lnS_le l
    simp only [lnS, List.length_cons]
    have : PP.lnC k ≤ 3 := by unfold PP.lnC; split <;> (try split) <;> (try split) <;> omega
    omega
theorem linesI_step {w W : World} {B m' : Nat} {pre : List YArg} {x : YArg} {v : Value} {a : Act} (h : Blk W B 3 #[.int .i64 (lnS (pre.map (·.k)) : Int)]) (hb : Below w.heap.size w W) (hB : w.heap.size ≤ B) (hv : v = .int .i64 ((lnS (pre.map (·.k)) + PP.lnC x.k : Nat) : Int)) :
    allPost m' (KpC B) (LinesI w B) (pre ++ [x]) W .normal a (W.setCell ⟨B, 0, none⟩ v) := by
  refine ⟨(KeepsOthers.setCell W _ _).from _, KpC.set W ⟨B, 0, none⟩ _, ?_, hb.setCell hB _⟩
  have := h.set_ 0 v
  rw [hv] at this ⊢
  rw [List.map_append, lnS_app]
  simpa [lnS] using this
theorem linesI_same {w W : World} {B m' : Nat} {pre : List YArg} {x : YArg} {a : Act} (h : Blk W B 3 #[.int .i64 (lnS (pre.map (·.k)) : Int)]) (hb : Below w.heap.size w W) (hx : PP.lnC x.k = 0) :
    allPost m' (KpC B) (LinesI w B) (pre ++ [x]) W .normal a W := by
  refine ⟨KeepsFrom.refl _ _, KpC.refl _ _, ?_, hb⟩
  rw [List.map_append, lnS_app]
  simpa [lnS, hx] using h
theorem step_bd {x y : PP.Ls} {c : UInt8} (h : PP.lsStep x c = some y) (ht : 0 ≤ x.t) : x.d - 1 ≤ y.d ∧ y.d ≤ x.d + 1 ∧ y.n ≤ x.n + 1 ∧ 0 ≤ y.t ∧ y.t ≤ x.t + 1 := by
  have hp : ∀ x : PP.Ls, 0 ≤ x.t → x.d - 1 ≤ (PP.lsPost x c).d ∧ (PP.lsPost x c).d ≤ x.d + 1 ∧ (PP.lsPost x c).n ≤ x.n + 1 ∧ 0 ≤ (PP.lsPost x c).t ∧ (PP.lsPost x c).t ≤ x.t + 1 := by
    intro x ht
    unfold PP.lsPost
    split
    · simp only; omega
    · split
      · simp only; omega
      · split
        · simp only; omega
        · omega
  unfold PP.lsStep at h
  split at h
  · split at h
    · injection h with h; subst h; simp only; omega
    · by_cases hq : x.t ≠ (if c = 125 then x.d - 1 else x.d) ∨ c = 10
      · rw [if_pos hq] at h; cases h
      · rw [if_neg hq] at h; injection h with h; subst h; exact hp _ ht
  · injection h with h; subst h; exact hp _ ht
theorem scan_bd : ∀ (l : List UInt8) (x y : PP.Ls), PP.scan x l = some y → 0 ≤ x.t → x.d - l.length ≤ y.d ∧ y.d ≤ x.d + l.length ∧ y.n ≤ x.n + l.length ∧ 0 ≤ y.t ∧ y.t ≤ x.t + l.length
  | [], x, y, h, ht => by
    simp only [PP.scan] at h; injection h with h; subst h
    simp; omega
  | c :: l, x, y, h, ht => by
    rw [PP.scan] at h
    cases hz : PP.lsStep x c with
    | none => rw [hz] at h; cases h
    | some z =>
      rw [hz, Option.bind_some] at h
      obtain ⟨a1, a2, a3, a4, a5⟩ := step_bd hz ht
      obtain ⟨c1, c2, c3, c4, c5⟩ := scan_bd l z y h a4
      simp only [List.length_cons]
      omega
theorem scan_next {s : List UInt8} {j : Nat} {x0 x e : PP.Ls} (hlt : j < s.length) (h : PP.scan x0 (s.take j) = some x) (he : PP.scan x0 s = some e) : ∃ y, PP.lsStep x (s[j]'hlt) = some y ∧ PP.scan x0 (s.take (j + 1)) = some y := by
  have h1 : PP.scan x0 (s.take (j + 1)) = PP.lsStep x (s[j]'hlt) := by
    rw [List.take_add_one, List.getElem?_eq_getElem hlt, PP.scan_app, h, Option.bind_some]
    simp only [Option.toList, PP.scan]
    cases PP.lsStep x s[j] <;> rfl
  cases hy : PP.lsStep x (s[j]'hlt) with
  | some y => exact ⟨y, rfl, by rw [h1, hy]⟩
  | none =>
    rw [hy] at h1
    rw [← List.take_append_drop (j + 1) s, PP.scan_app, h1] at he
    cases he
theorem lsStep_close {d t : Int} {n : Nat} {y : PP.Ls} (h : PP.lsStep ⟨d, t, true, n⟩ 125 = some y) : t = d - 1 ∧ y = ⟨d - 1, t, false, n⟩ := by
  unfold PP.lsStep at h
  rw [if_pos rfl, if_neg (by decide), if_pos rfl] at h
  split at h
  · cases h
  · rename_i hc
    injection h with h
    exact ⟨Decidable.byContradiction (fun hn => hc (.inl hn)), h.symm⟩
theorem lsStep_open {d t : Int} {n : Nat} {y : PP.Ls} (h : PP.lsStep ⟨d, t, true, n⟩ 123 = some y) : t = d ∧ y = ⟨d + 1, t, false, n⟩ := by
  unfold PP.lsStep at h
  rw [if_pos rfl, if_neg (by decide), if_neg (show ¬ (123 : UInt8) = 125 by decide)] at h
  split at h
  · cases h
  · rename_i hc
    injection h with h
    exact ⟨Decidable.byContradiction (fun hn => hc (.inl hn)), h.symm⟩
theorem lsStep_other {d t : Int} {n : Nat} {y : PP.Ls} {b : UInt8} (h9 : ¬ b = 9) (h10 : ¬ b = 10) (h123 : ¬ b = 123) (h125 : ¬ b = 125) (h : PP.lsStep ⟨d, t, true, n⟩ b = some y) : t = d ∧ y = ⟨d, t, false, n⟩ := by
  unfold PP.lsStep at h
  rw [if_pos rfl, if_neg h9, if_neg h125] at h
  split at h
  · cases h
  · rename_i hc
    injection h with h
    refine ⟨Decidable.byContradiction (fun hn => hc (.inl hn)), ?_⟩
    rw [← h]; unfold PP.lsPost; rw [if_neg h123, if_neg h125, if_neg h10]
section
set_option maxHeartbeats 4000000
set_option maxRecDepth 100000
attribute [local go_sem] Oper.semAt_some
theorem lines14_walk {w : World} {A : Option Addr} {kids : List Tree} {k : Nat} {num : Int} {nm : List UInt8} {c : Nat} (h : LArg w A kids) (hbd : PP.bdT (.node k num nm kids)) :
    Calls Tryd.prog 3 #[.agg #[.int .u8 (k : Int), .int .i64 num, .string ⟨nm.toArray⟩, .slice A kids.length c]] w fun e w' => e = .returned (.bool true) ∧ Below w.heap.size w w' := by
  have hnot : ∀ (x : Bool) (w : World), (Op.unary .not (.bool x)).run Tryd.prog w = .ok (.bool (!x)) w := fun _ _ => rfl
  have hb : Below w.heap.size w (w.alloc (.cells #[.int .u8 (k : Int), .int .i64 num, .string ⟨nm.toArray⟩, .slice A kids.length c] 24)) := (Below.refl _ _).alloc (Nat.le_refl _) _
  have hblk := Blk.new w 24 #[.int .u8 (k : Int), .int .i64 num, .string ⟨nm.toArray⟩, .slice A kids.length c]
  have h1 := h.below hb
  have HAW := Lib.hid (awake14_any _ h1.ops h1.pow h1.sg)
  have HL := Lib.hid h
  have HBD := Lib.hid hbd
  have HB0 := Lib.hid hb
  have HK0 := Lib.hid hblk
  have x0 := True.intro
  have x1 := True.intro
  have x2 := True.intro
  have x3 := True.intro
  have hl0 := True.intro
  clear h hbd hb hblk h1
  refine (callsIn_wide (n := 9)).1 (callsIn_of_wp_marks Tryd.func3 rfl trivial ?_)
  refine (wpIn_wide (n := 9)).2 ?_
  simp only [Tryd.ntmps3, List.size_toArray, List.length_cons, List.length_nil, Nat.reduceAdd, Nat.reduceSub, Array.replicate_succ, Array.replicate_zero, List.push_toArray, List.append_toArray, List.nil_append, List.cons_append]
  go_wp2_with fail
  refine HAW.out.mono ?_
  rintro e w1 ⟨rfl, hb1⟩
  have g1 := HB0.out.trans (hb1.mono HB0.out.size)
  have HB1 := Lib.hid g1
  have hk1 := Blk.below HK0.out hb1
  clear x0 x1 x2 x3 hl0
  obtain ⟨x0, x1, x2, x3⟩ := hk1.four.1
  have hl1 := hk1.lt
  have HK1 := Lib.hid hk1
  have hsm := small_any (k := k) (num := num) (nm := nm) (c := c) (HL.out.below g1).ks HBD.out
  clear g1 hb1 hk1 HK0 HAW
  by_cases hc : PP.cntT (.node k num nm kids) 20 ≤ 500
  · rw [show decide (PP.cntT (.node k num nm kids) 20 ≤ 500) = true from by simpa using hc] at hsm
    obtain ⟨c1, c2, c3⟩ := PP.cntT_ok (.node k num nm kids) 20 (by omega)
    have HSZ := Lib.hid (show (Tree.node k num nm kids).size ≤ 40000 from by omega)
    have HDP := Lib.hid c2
    have hsz : PP.sizeL kids ≤ 999999 := by simp only [PP.Tree.size] at c1; omega
    simp only [PP.nmT, Bool.and_eq_true, decide_eq_true_iff] at c3
    obtain ⟨hnm, hnk⟩ := c3
    have HSM := Lib.hid hsm
    have HNM := Lib.hid hnm
    have HNK := Lib.hid hnk
    have HSZL := Lib.hid hsz
    have HDQ := Lib.hid (show PP.depthL kids ≤ 900 from by simp only [PP.Tree.depth] at c2; omega)
    have HLN : Hid (PP.okT (.node k num nm kids) 98 = true → (PP.prB (.node k num nm kids) 0).length ≤ 1000000000000) := Lib.hid (by
      intro hok
      have hks := (PP.okB_inv hok).2.2.2
      have := (PP.prS_len (PP.sizeL kids)).2 kids 0 (Nat.le_refl _) hks (by simp only [PP.Tree.depth] at c2; omega)
      simp only [PP.prB]
      simp only [PP.Tree.size] at c1
      omega)
    clear hsm hc c1 c2 hnk hsz
    go_wp2_with fail
    refine HSM.out.mono ?_
    rintro e w2 ⟨rfl, hb2⟩
    have g2 := HB1.out.trans (hb2.mono HB1.out.size)
    have HB2 := Lib.hid g2
    have hk2 := Blk.below HK1.out hb2
    clear x0 x1 x2 x3 hl1
    obtain ⟨x0, x1, x2, x3⟩ := hk2.four.1
    have hl2 := hk2.lt
    have HK2 := Lib.hid hk2
    have hib := isBlock_any (k := k) (num := num) (nm := nm) (c := c) ((HL.out.below g2).parg HSZL.out HNK.out) HNM.out
    clear g2 hb2 hk2 HK1 HSM
    cases hok : PP.okT (.node k num nm kids) 98 with
    | false =>
      rw [hok] at hib
      have HIB := Lib.hid hib
      clear hib hok
      go_wp2_with fail
      refine HIB.out.mono ?_
      rintro e w3 ⟨rfl, hb3⟩
      have HB3 := Lib.hid (HB2.out.trans (hb3.mono HB2.out.size))
      go_wp2_with fail
      exact ⟨_, results_tmp rfl _ _ _, rfl, HB3.out⟩
    | true =>
      rw [hok] at hib
      have HIB := Lib.hid hib
      have HOK := Lib.hid hok
      clear hib hok
      go_wp2_with fail
      refine HIB.out.mono ?_
      rintro e w3 ⟨rfl, hb3⟩
      have g3 := HB2.out.trans (hb3.mono HB2.out.size)
      have HB3 := Lib.hid g3
      have hk3 := Blk.below HK2.out hb3
      clear x0 x1 x2 x3 hl2
      obtain ⟨x0, x1, x2, x3⟩ := hk3.four.1
      have hl3 := hk3.lt
      have HK3 := Lib.hid hk3
      have hpb := printBlock_any (k := k) (num := num) (nm := nm) (c := c) ((HL.out.below g3).parg HSZL.out HNK.out) HNM.out HDQ.out
      rw [show blockOut (.node k num nm kids) = (PP.prB (.node k num nm kids) 0, 0) from by unfold blockOut; rw [HOK.out]; rfl] at hpb
      have HPB := Lib.hid hpb
      clear hpb g3 hb3 hk3 HK2 HIB
      go_wp2_with fail
      refine HPB.out.mono ?_
      rintro e w4 ⟨rfl, hb4⟩
      have g4 := HB3.out.trans (hb4.mono HB3.out.size)
      have HB4 := Lib.hid g4
      have hk4 := Blk.below HK3.out hb4
      clear x0 x1 x2 x3 hl3
      obtain ⟨s, hs⟩ : ∃ s, PP.prB (.node k num nm kids) 0 = s := ⟨_, rfl⟩
      have HSS := Lib.hid hs
      have HLS := Lib.hid (show s.length ≤ 1000000000000 from by rw [← hs]; exact HLN.out HOK.out)
      have hsc := PP.lines_B HOK.out
      rw [hs] at hsc
      have HSC := Lib.hid hsc
      rw [hs]
      obtain ⟨x0, x1, x2, x3⟩ := (hk4.alloc (.cells #[.int .i64 0] 3)).four.1
      have HB5 := Lib.hid (show Below w.heap.size w (w4.alloc (.cells #[.int .i64 0] 3)) from g4.alloc g4.size _)
      have HC5 := Lib.hid (Blk.new w4 3 #[.int .i64 0])
      have HWA := Lib.hid (walk_any (HL.out.below HB5.out).ks k num nm c (by have := HSZL.out; omega))
      have HL4 := Lib.hid g4.size
      clear hs hsc g4 hb4 hk4 HK3 HPB HB3 HB2 HB1
      go_wp2_with fail
      refine HWA.out.mono ?_
      rintro e w6 ⟨R, A', c', rfl, hR, hK6, hR6, hb6⟩
      have hc6 := HC5.out.below hb6
      have hs5 : (w4.alloc (.cells #[.int .i64 0] 3)).heap.size = w4.heap.size + 1 := Array.size_push ..
      rw [hs5] at hR6 hK6
      have HB6 := Lib.hid (HB5.out.trans (hb6.mono HB5.out.size))
      have HSEQ := Lib.hid (walk_seq (B := w4.heap.size) (by omega) hK6 hR hc6.lt (by have := HSZ.out; omega) (by have := HDP.out; omega))
      have HC6 := Lib.hid hc6
      have HL6 := Lib.hid (show w4.heap.size < w6.heap.size from hc6.lt)
      clear hR hK6 hR6 hb6 hc6 hs5 HC5 HB5 HWA x0 x1 x2 x3
      go_wp2_with fail
      refine (wpIn_wide (n := 9)).1 (range_all (w := w6) (gf := 17) (lb := #[.pointer (some ⟨R, 0, none⟩)]) rfl (enters_of Tryd.func17 (by kernel_rfl) rfl) HSEQ.out (fun h k => KpC.trans h k) (fun W l o o' _ h1 h2 _ => KpC.put _ W l o o' h1 h2) (fun _ => rfl) (LinesI w w4.heap.size) (linesI_own (Nat.le_refl _) HB6.out.size) ⟨HC6.out, HB6.out⟩
        (fun x a' W => ∃ b, b ≠ w4.heap.size ∧ Blk W b 24 #[.int .u8 (x.k : Int), .int .i64 x.num, .string ⟨x.nm.toArray⟩, .slice x.A x.len x.c] ∧ a' = { tmps := #[.agg #[.int .u8 (k : Int), .int .i64 num, .string ⟨nm.toArray⟩, .slice A kids.length c], .pointer (some ⟨w.heap.size, 0, none⟩), .bool false, .string ⟨s.toArray⟩, .int .i64 0, .int .i64 0, .pointer (some ⟨w4.heap.size, 0, none⟩), undef, .pointer (some ⟨b, 0, none⟩), undef, undef, undef, undef, undef, .bool true, .bool false, .agg #[.int .u8 (k : Int), .int .i64 num, .string ⟨nm.toArray⟩, .slice A kids.length c], .bool true, .bool false, .bool false, .agg #[.int .u8 (k : Int), .int .i64 num, .string ⟨nm.toArray⟩, .slice A kids.length c], .bool true, .bool false, .bool false, .tuple #[.string ⟨s.toArray⟩, .int .i64 0], .agg #[.int .u8 (k : Int), .int .i64 num, .string ⟨nm.toArray⟩, .slice A kids.length c], .tuple #[.string ⟨s.toArray⟩, .int .i64 0], .string ⟨s.toArray⟩, .int .i64 0, .int .i64 0, .bool false, .agg #[.int .u8 (k : Int), .int .i64 num, .string ⟨nm.toArray⟩, .slice A kids.length c], .func (.func 17) #[] #[.pointer (some ⟨R, 0, none⟩)], x.p, .agg #[.int .u8 (x.k : Int), .int .i64 x.num, .string ⟨x.nm.toArray⟩, .slice x.A x.len x.c], undef, undef, undef, undef, undef, undef, undef, undef, undef, undef, undef, undef, undef, undef, undef, undef, undef, undef, undef, undef, undef, undef, undef, undef, undef, undef, undef, undef, undef, undef, undef, undef, undef, undef, undef, undef, undef, undef, undef, undef, undef, undef, undef, undef, undef, undef, undef, undef, undef, undef, undef, undef, undef, undef, undef, undef, undef, undef, undef, undef, undef, undef, undef, undef, undef, undef, undef, undef, undef, undef, undef, undef, undef, undef, undef, undef, undef], defers := [] }) ?ax ?assign ?body ?done)
      case ax =>
        rintro x a' s X Y row ⟨b, hb, hk, ha⟩ hg hr
        exact ⟨b, hb, blk_own hk hg (fun r e => (hr r e).2), ha⟩
      case assign =>
        rintro m l pre ⟨p, xk, xnum, xnm, xA, xlen, xc⟩ W K hi hK
        simp only [YArg.encs]
        gi_wp2
        exact hK _ _ ((KeepsOthers.alloc W _).from _) (KpC.alloc _ W _) (linesI_alloc hi HL4.out _) ⟨W.heap.size, by have := hi.1.lt; omega, Blk.new _ _ _, rfl⟩
      case body =>
        rintro m l pre ⟨p, xk, xnum, xnm, xA, xlen, xc⟩ a' W ⟨hc, hb⟩ ⟨b, hbB, hk, rfl⟩ hlt
        have c0 := hc.cell 0
        have k0 := hk.cell 0
        have f0 := hc.frozen 0
        have HC := Lib.hid hc
        have HB := Lib.hid hb
        have HN := Lib.hid (show lnS (pre.map (·.k)) ≤ 120000 from by have h1 := HSZ.out; have h2 := lnS_le (pre.map (·.k)); rw [List.length_map] at h2; omega)
        clear hc hb hk hlt
        simp only at c0 k0
        by_cases h40 : xk = 40
        · subst h40
          have hw : wrap64 ((lnS (pre.map (·.k)) : Int) + 1) = ((lnS (pre.map (·.k)) + 1 : Nat) : Int) := by have := HN.out; unfold wrap64; omega
          have HW := Lib.hid hw
          clear hw
          gi_wp2
          refine linesI_step HC.out HB.out HL4.out ?_; rw [HW.out]; rfl
        · have g40 : ¬ ((xk : Int) = 40) := by omega
          by_cases h44 : xk = 44
          · subst h44
            clear h40
            have hw : wrap64 ((lnS (pre.map (·.k)) : Int) + 1) = ((lnS (pre.map (·.k)) + 1 : Nat) : Int) := by have := HN.out; unfold wrap64; omega
            have HW := Lib.hid hw
            clear hw
            gi_wp2
            refine linesI_step HC.out HB.out HL4.out ?_; rw [HW.out]; rfl
          · have g44 : ¬ ((xk : Int) = 44) := by omega
            by_cases h45 : xk = 45
            · subst h45
              clear h40
              clear h44
              have hw : wrap64 ((lnS (pre.map (·.k)) : Int) + 1) = ((lnS (pre.map (·.k)) + 1 : Nat) : Int) := by have := HN.out; unfold wrap64; omega
              have HW := Lib.hid hw
              clear hw
              gi_wp2
              refine linesI_step HC.out HB.out HL4.out ?_; rw [HW.out]; rfl
            · have g45 : ¬ ((xk : Int) = 45) := by omega
              by_cases h42 : xk = 42
              · subst h42
                clear h40
                clear h44
                clear h45
                have hw : wrap64 ((lnS (pre.map (·.k)) : Int) + 2) = ((lnS (pre.map (·.k)) + 2 : Nat) : Int) := by have := HN.out; unfold wrap64; omega
                have HW := Lib.hid hw
                clear hw
                gi_wp2
                refine linesI_step HC.out HB.out HL4.out ?_; rw [HW.out]; rfl
              · have g42 : ¬ ((xk : Int) = 42) := by omega
                by_cases h43 : xk = 43
                · subst h43
                  clear h40
                  clear h44
                  clear h45
                  clear h42
                  have hw : wrap64 ((lnS (pre.map (·.k)) : Int) + 2) = ((lnS (pre.map (·.k)) + 2 : Nat) : Int) := by have := HN.out; unfold wrap64; omega
                  have HW := Lib.hid hw
                  clear hw
                  gi_wp2
                  refine linesI_step HC.out HB.out HL4.out ?_; rw [HW.out]; rfl
                · have g43 : ¬ ((xk : Int) = 43) := by omega
                  by_cases h46 : xk = 46
                  · subst h46
                    clear h40
                    clear h44
                    clear h45
                    clear h42
                    clear h43
                    have hw : wrap64 ((lnS (pre.map (·.k)) : Int) + 2) = ((lnS (pre.map (·.k)) + 2 : Nat) : Int) := by have := HN.out; unfold wrap64; omega
                    have HW := Lib.hid hw
                    clear hw
                    gi_wp2
                    refine linesI_step HC.out HB.out HL4.out ?_; rw [HW.out]; rfl
                  · have g46 : ¬ ((xk : Int) = 46) := by omega
                    by_cases h41 : xk = 41
                    · subst h41
                      clear h40
                      clear h44
                      clear h45
                      clear h42
                      clear h43
                      clear h46
                      have hw : wrap64 ((lnS (pre.map (·.k)) : Int) + 3) = ((lnS (pre.map (·.k)) + 3 : Nat) : Int) := by have := HN.out; unfold wrap64; omega
                      have HW := Lib.hid hw
                      clear hw
                      gi_wp2
                      refine linesI_step HC.out HB.out HL4.out ?_; rw [HW.out]; rfl
                    · have g41 : ¬ ((xk : Int) = 41) := by omega
                      gi_wp2
                      exact linesI_same HC.out HB.out (by show PP.lnC xk = 0; unfold PP.lnC; rw [if_neg (by omega), if_neg (by omega), if_neg (by omega)])
      case done =>
        rintro D ys W hD hys ⟨hc, hb⟩ hdf
        rw [hys, lnS_T] at hc
        have c0 : W.cell? ⟨w4.heap.size, 0, none⟩ = some (.int .i64 ((PP.stm (.node k num nm kids) : Nat) : Int)) := hc.cell 0
        have HSL := Lib.hid (show PP.stm (.node k num nm kids) ≤ 120000 from by rw [← lnS_T]; have h1 := HSZ.out; have h2 := lnS_le (kindsT (.node k num nm kids)); rw [kindsT_len] at h2; omega)
        have HHB := Lib.hid hb
        have HDF := Lib.hid hdf
        have HDD := Lib.hid hD
        clear hc hys hb hdf hD
        obtain ⟨M, hM⟩ : ∃ M, PP.stm (.node k num nm kids) = M := ⟨_, rfl⟩
        rw [hM] at c0
        have HM := Lib.hid hM
        clear hM
        go_wp2_with fail
        go_loopw [5, 9, 10, 11, 55] (fun v5 v9 v10 v11 v55 wr => ∃ (j : Nat) (d t : Int) (st : Bool) (n : Nat), j ≤ s.length ∧ v55 = .int .i64 (j : Int) ∧ PP.scan ⟨0, 0, true, 0⟩ (s.take j) = some ⟨d, t, st, n⟩ ∧ v5 = .int .i64 (n : Int) ∧ v9 = .int .i64 d ∧ v10 = .int .i64 t ∧ v11 = .bool st ∧ wr = W) (fun _ _ _ _ i _ => s.length - (intOf i).toNat)
        case atStart => exact ⟨0, 0, 0, true, 0, Nat.zero_le _, rfl, rfl, rfl, rfl, rfl, rfl, rfl⟩
        case round =>
          obtain ⟨j, d, t, st, n, hj, rfl, hs, rfl, rfl, rfl, rfl, rfl⟩ := hrel
          obtain ⟨b1, b2, b3, b4, b5⟩ := scan_bd _ _ _ hs (by simp)
          simp only [List.length_take] at b1 b2 b3 b4 b5
          have hls := HLS.out
          by_cases hlt : j < s.length
          · have hbi : j < (⟨s.toArray⟩ : ByteArray).size := by simpa [ByteArray.size] using hlt
            obtain ⟨b, hb⟩ : ∃ b, s[j]'hlt = b := ⟨_, rfl⟩
            have hge : (⟨s.toArray⟩ : ByteArray)[j]'hbi = b := hb
            obtain ⟨y, hy, hs1⟩ := scan_next hlt hs HSC.out
            rw [hb] at hy
            have q0 : (0 : Int) ≤ (j : Int) := by omega
            have q1 : (j : Int) < (s.length : Int) := by omega
            have HS1 := Lib.hid hs1
            have HWJ := Lib.hid (show wrap64 ((j : Int) + 1) = ((j + 1 : Nat) : Int) from by unfold wrap64; omega)
            have HWP := Lib.hid (show wrap64 (d + 1) = d + 1 from by unfold wrap64; omega)
            have HWM := Lib.hid (show wrap64 (d - 1) = d - 1 from by unfold wrap64; omega)
            have HWT := Lib.hid (show wrap64 (t + 1) = t + 1 from by unfold wrap64; omega)
            have HWN := Lib.hid (show wrap64 ((n : Int) + 1) = ((n + 1 : Nat) : Int) from by unfold wrap64; omega)
            clear hs hs1 b1 b2 b3 b4 b5 hls hb
            cases st with
            | true =>
              by_cases h9 : b = 9
              · subst h9
                obtain rfl : y = ⟨d, t + 1, true, n⟩ := by injection hy with h; exact h.symm
                have e9 : (((((⟨s.toArray⟩ : ByteArray)[j]'hbi).toNat : Int) == 9) = true) := by rw [hge]; rfl
                have e10 : (((((⟨s.toArray⟩ : ByteArray)[j]'hbi).toNat : Int) == 10) = false) := by rw [hge]; rfl
                have e123 : (((((⟨s.toArray⟩ : ByteArray)[j]'hbi).toNat : Int) == 123) = false) := by rw [hge]; rfl
                have e125 : (((((⟨s.toArray⟩ : ByteArray)[j]'hbi).toNat : Int) == 125) = false) := by rw [hge]; rfl
                clear hge
                go_wp2_with fail
                refine ⟨⟨j + 1, d, t + 1, true, n, hlt, by rw [HWJ.out], HS1.out, by first | rfl | (rw [HWN.out]), by first | rfl | (rw [HWP.out]), by first | rfl | (rw [HWT.out]), by first | rfl | (rw [HWN.out]), trivial⟩, by rw [HWJ.out]; simp only [intOf, Int.toNat_natCast]; omega⟩
              ·
                by_cases h10 : b = 10
                · subst h10
                  exact absurd hy (by simp [PP.lsStep])
                ·
                  by_cases h123 : b = 123
                  · subst h123
                    obtain ⟨ht, rfl⟩ : t = d ∧ y = ⟨d + 1, t, false, n⟩ := lsStep_open hy
                    subst ht
                    have e9 : (((((⟨s.toArray⟩ : ByteArray)[j]'hbi).toNat : Int) == 9) = false) := by rw [hge]; rfl
                    have e10 : (((((⟨s.toArray⟩ : ByteArray)[j]'hbi).toNat : Int) == 10) = false) := by rw [hge]; rfl
                    have e123 : (((((⟨s.toArray⟩ : ByteArray)[j]'hbi).toNat : Int) == 123) = true) := by rw [hge]; rfl
                    have e125 : (((((⟨s.toArray⟩ : ByteArray)[j]'hbi).toNat : Int) == 125) = false) := by rw [hge]; rfl
                    clear hge
                    go_wp2_with fail
                    refine ⟨⟨j + 1, t + 1, t, false, n, hlt, by rw [HWJ.out], HS1.out, by first | rfl | (rw [HWN.out]), by first | rfl | (rw [HWP.out]), by first | rfl | (rw [HWM.out]), by first | rfl | (rw [HWN.out]), trivial⟩, by rw [HWJ.out]; simp only [intOf, Int.toNat_natCast]; omega⟩
                  ·
                    by_cases h125 : b = 125
                    · subst h125
                      obtain ⟨ht, rfl⟩ : t = d - 1 ∧ y = ⟨d - 1, t, false, n⟩ := lsStep_close hy
                      subst ht
                      have hwm := HWM.out
                      have e9 : (((((⟨s.toArray⟩ : ByteArray)[j]'hbi).toNat : Int) == 9) = false) := by rw [hge]; rfl
                      have e10 : (((((⟨s.toArray⟩ : ByteArray)[j]'hbi).toNat : Int) == 10) = false) := by rw [hge]; rfl
                      have e123 : (((((⟨s.toArray⟩ : ByteArray)[j]'hbi).toNat : Int) == 123) = false) := by rw [hge]; rfl
                      have e125 : (((((⟨s.toArray⟩ : ByteArray)[j]'hbi).toNat : Int) == 125) = true) := by rw [hge]; rfl
                      clear hge
                      go_wp2_with fail
                      refine ⟨⟨j + 1, d - 1, d - 1, false, n, hlt, by rw [HWJ.out], HS1.out, by first | rfl | (rw [HWN.out]), by first | rfl | (rw [HWM.out]), by first | rfl | (rw [HWM.out]), by first | rfl | (rw [HWN.out]), trivial⟩, by rw [HWJ.out]; simp only [intOf, Int.toNat_natCast]; omega⟩
                    ·
                      obtain ⟨ht, rfl⟩ : t = d ∧ y = ⟨d, t, false, n⟩ := lsStep_other h9 h10 h123 h125 hy
                      subst ht
                      have e9 : (((((⟨s.toArray⟩ : ByteArray)[j]'hbi).toNat : Int) == 9) = false) := by rw [hge]; simp only [beq_eq_false_iff_ne, ne_eq]; intro h; exact h9 (UInt8.toNat_inj.1 (show b.toNat = (9 : UInt8).toNat from (show b.toNat = 9 from by omega)))
                      have e10 : (((((⟨s.toArray⟩ : ByteArray)[j]'hbi).toNat : Int) == 10) = false) := by rw [hge]; simp only [beq_eq_false_iff_ne, ne_eq]; intro h; exact h10 (UInt8.toNat_inj.1 (show b.toNat = (10 : UInt8).toNat from (show b.toNat = 10 from by omega)))
                      have e123 : (((((⟨s.toArray⟩ : ByteArray)[j]'hbi).toNat : Int) == 123) = false) := by rw [hge]; simp only [beq_eq_false_iff_ne, ne_eq]; intro h; exact h123 (UInt8.toNat_inj.1 (show b.toNat = (123 : UInt8).toNat from (show b.toNat = 123 from by omega)))
                      have e125 : (((((⟨s.toArray⟩ : ByteArray)[j]'hbi).toNat : Int) == 125) = false) := by rw [hge]; simp only [beq_eq_false_iff_ne, ne_eq]; intro h; exact h125 (UInt8.toNat_inj.1 (show b.toNat = (125 : UInt8).toNat from (show b.toNat = 125 from by omega)))
                      clear hge
                      go_wp2_with fail
                      refine ⟨⟨j + 1, t, t, false, n, hlt, by rw [HWJ.out], HS1.out, by first | rfl | (rw [HWN.out]), by first | rfl | (rw [HWP.out]), by first | rfl | (rw [HWM.out]), by first | rfl | (rw [HWN.out]), trivial⟩, by rw [HWJ.out]; simp only [intOf, Int.toNat_natCast]; omega⟩
            | false =>
              by_cases h9 : b = 9
              · subst h9
                obtain rfl : y = ⟨d, t, false, n⟩ := by rw [PP.step_in] at hy; injection hy with h; exact h.symm
                have e9 : (((((⟨s.toArray⟩ : ByteArray)[j]'hbi).toNat : Int) == 9) = true) := by rw [hge]; rfl
                have e10 : (((((⟨s.toArray⟩ : ByteArray)[j]'hbi).toNat : Int) == 10) = false) := by rw [hge]; rfl
                have e123 : (((((⟨s.toArray⟩ : ByteArray)[j]'hbi).toNat : Int) == 123) = false) := by rw [hge]; rfl
                have e125 : (((((⟨s.toArray⟩ : ByteArray)[j]'hbi).toNat : Int) == 125) = false) := by rw [hge]; rfl
                clear hge
                go_wp2_with fail
                refine ⟨⟨j + 1, d, t, false, n, hlt, by rw [HWJ.out], HS1.out, by first | rfl | (rw [HWN.out]), by first | rfl | (rw [HWP.out]), by first | rfl | (rw [HWM.out]), by first | rfl | (rw [HWN.out]), trivial⟩, by rw [HWJ.out]; simp only [intOf, Int.toNat_natCast]; omega⟩
              ·
                by_cases h10 : b = 10
                · subst h10
                  obtain rfl : y = ⟨d, 0, true, n + 1⟩ := by rw [PP.step_in] at hy; injection hy with h; exact h.symm
                  have e9 : (((((⟨s.toArray⟩ : ByteArray)[j]'hbi).toNat : Int) == 9) = false) := by rw [hge]; rfl
                  have e10 : (((((⟨s.toArray⟩ : ByteArray)[j]'hbi).toNat : Int) == 10) = true) := by rw [hge]; rfl
                  have e123 : (((((⟨s.toArray⟩ : ByteArray)[j]'hbi).toNat : Int) == 123) = false) := by rw [hge]; rfl
                  have e125 : (((((⟨s.toArray⟩ : ByteArray)[j]'hbi).toNat : Int) == 125) = false) := by rw [hge]; rfl
                  clear hge
                  go_wp2_with fail
                  refine ⟨⟨j + 1, d, 0, true, n + 1, hlt, by rw [HWJ.out], HS1.out, by first | rfl | (rw [HWN.out]), by first | rfl | (rw [HWP.out]), by first | rfl | (rw [HWM.out]), by first | rfl | (rw [HWN.out]), trivial⟩, by rw [HWJ.out]; simp only [intOf, Int.toNat_natCast]; omega⟩
                ·
                  by_cases h123 : b = 123
                  · subst h123
                    obtain rfl : y = ⟨d + 1, t, false, n⟩ := by rw [PP.step_in] at hy; injection hy with h; exact h.symm
                    have e9 : (((((⟨s.toArray⟩ : ByteArray)[j]'hbi).toNat : Int) == 9) = false) := by rw [hge]; rfl
                    have e10 : (((((⟨s.toArray⟩ : ByteArray)[j]'hbi).toNat : Int) == 10) = false) := by rw [hge]; rfl
                    have e123 : (((((⟨s.toArray⟩ : ByteArray)[j]'hbi).toNat : Int) == 123) = true) := by rw [hge]; rfl
                    have e125 : (((((⟨s.toArray⟩ : ByteArray)[j]'hbi).toNat : Int) == 125) = false) := by rw [hge]; rfl
                    clear hge
                    go_wp2_with fail
                    refine ⟨⟨j + 1, d + 1, t, false, n, hlt, by rw [HWJ.out], HS1.out, by first | rfl | (rw [HWN.out]), by first | rfl | (rw [HWP.out]), by first | rfl | (rw [HWM.out]), by first | rfl | (rw [HWN.out]), trivial⟩, by rw [HWJ.out]; simp only [intOf, Int.toNat_natCast]; omega⟩
                  ·
                    by_cases h125 : b = 125
                    · subst h125
                      obtain rfl : y = ⟨d - 1, t, false, n⟩ := by rw [PP.step_in] at hy; injection hy with h; exact h.symm
                      have e9 : (((((⟨s.toArray⟩ : ByteArray)[j]'hbi).toNat : Int) == 9) = false) := by rw [hge]; rfl
                      have e10 : (((((⟨s.toArray⟩ : ByteArray)[j]'hbi).toNat : Int) == 10) = false) := by rw [hge]; rfl
                      have e123 : (((((⟨s.toArray⟩ : ByteArray)[j]'hbi).toNat : Int) == 123) = false) := by rw [hge]; rfl
                      have e125 : (((((⟨s.toArray⟩ : ByteArray)[j]'hbi).toNat : Int) == 125) = true) := by rw [hge]; rfl
                      clear hge
                      go_wp2_with fail
                      refine ⟨⟨j + 1, d - 1, t, false, n, hlt, by rw [HWJ.out], HS1.out, by first | rfl | (rw [HWN.out]), by first | rfl | (rw [HWM.out]), by first | rfl | (rw [HWM.out]), by first | rfl | (rw [HWN.out]), trivial⟩, by rw [HWJ.out]; simp only [intOf, Int.toNat_natCast]; omega⟩
                    ·
                      obtain rfl : y = ⟨d, t, false, n⟩ := by rw [PP.step_in] at hy; injection hy with h; rw [← h]; unfold PP.lsPost; rw [if_neg h123, if_neg h125, if_neg h10]
                      have e9 : (((((⟨s.toArray⟩ : ByteArray)[j]'hbi).toNat : Int) == 9) = false) := by rw [hge]; simp only [beq_eq_false_iff_ne, ne_eq]; intro h; exact h9 (UInt8.toNat_inj.1 (show b.toNat = (9 : UInt8).toNat from (show b.toNat = 9 from by omega)))
                      have e10 : (((((⟨s.toArray⟩ : ByteArray)[j]'hbi).toNat : Int) == 10) = false) := by rw [hge]; simp only [beq_eq_false_iff_ne, ne_eq]; intro h; exact h10 (UInt8.toNat_inj.1 (show b.toNat = (10 : UInt8).toNat from (show b.toNat = 10 from by omega)))
                      have e123 : (((((⟨s.toArray⟩ : ByteArray)[j]'hbi).toNat : Int) == 123) = false) := by rw [hge]; simp only [beq_eq_false_iff_ne, ne_eq]; intro h; exact h123 (UInt8.toNat_inj.1 (show b.toNat = (123 : UInt8).toNat from (show b.toNat = 123 from by omega)))
                      have e125 : (((((⟨s.toArray⟩ : ByteArray)[j]'hbi).toNat : Int) == 125) = false) := by rw [hge]; simp only [beq_eq_false_iff_ne, ne_eq]; intro h; exact h125 (UInt8.toNat_inj.1 (show b.toNat = (125 : UInt8).toNat from (show b.toNat = 125 from by omega)))
                      clear hge
                      go_wp2_with fail
                      refine ⟨⟨j + 1, d, t, false, n, hlt, by rw [HWJ.out], HS1.out, by first | rfl | (rw [HWN.out]), by first | rfl | (rw [HWP.out]), by first | rfl | (rw [HWM.out]), by first | rfl | (rw [HWN.out]), trivial⟩, by rw [HWJ.out]; simp only [intOf, Int.toNat_natCast]; omega⟩
          · obtain rfl : j = s.length := by omega
            rw [List.take_length, HSC.out] at hs
            injection hs with hs; injection hs with h1 h2 h3 h4
            rw [HM.out] at h4
            subst h1 h2 h3 h4
            clear b1 b2 b3 b4 b5 hls
            go_wp2_with fail
            refine ⟨by simp, .inl ⟨_, _, rfl, run_takeDeferred HDF.out, ?_⟩⟩
            exact ⟨_, results_tmp rfl _ _ _, rfl, HHB.out.grown (grownBy_putObj' _ D _) HHB.out.size (fun k e => by cases e; exact Nat.le_trans HB6.out.size HDD.out)⟩
  · rw [show decide (PP.cntT (.node k num nm kids) 20 ≤ 500) = false from by simpa using hc] at hsm
    have HSM := Lib.hid hsm
    clear hsm hc
    go_wp2_with fail
    refine HSM.out.mono ?_
    rintro e w2 ⟨rfl, hb2⟩
    have HB2 := Lib.hid (HB1.out.trans (hb2.mono HB1.out.size))
    go_wp2_with fail
    exact ⟨_, results_tmp rfl _ _ _, rfl, HB2.out⟩
end
end Go.Proofs.YtkeehpgnljieeaaDoor
