/- The contract of ast.isValid and its callers, for every tree. -/
import Derived.Test.YtkeehpgnljieeaaDoorValA
import Derived.Test.YtkeehpgnljieeaaDoorKF
import Derived.Test.YtkeehpgnljieeaaDoorPlainOff
namespace Go.Proofs.YtkeehpgnljieeaaDoor
open Go.RowKit Go.Maps
open PP (Tree)
namespace PP
theorem okS_at : ∀ (l : List Tree), (∀ (i : Nat) t, l[i]? = some t → okT t 115 = true) → okS l = true
  | [], _ => rfl
  | a :: l, h => by
    simp only [okS]
    rw [h 0 a rfl, okS_at l (fun i t hi => h (i + 1) t (by simpa using hi))]
    rfl
theorem okS_bad : ∀ (l : List Tree) (i : Nat) t, l[i]? = some t → okT t 115 = false → okS l = false
  | [], i, t, h, _ => by simp at h
  | a :: l, 0, t, h, he => by
    simp at h; subst h
    simp only [okS, he, Bool.false_and]
  | a :: l, i + 1, t, h, he => by
    simp only [okS]
    rw [okS_bad l i t (by simpa using h) he, Bool.and_false]
theorem okZ_at : ∀ (l : List Tree) (cs : List UInt8), (∀ (i : Nat) t c, l[i]? = some t → cs[i]? = some c → okT t c.toNat = true) → okZ l cs = true
  | [], _, _ => by simp [okZ]
  | _ :: _, [], _ => by simp [okZ]
  | a :: l, c :: cs, h => by
    simp only [okZ]
    rw [h 0 a c rfl rfl, okZ_at l cs (fun i t c hi hc => h (i + 1) t c (by simpa using hi) (by simpa using hc))]
    rfl
theorem okZ_bad : ∀ (l : List Tree) (cs : List UInt8) (i : Nat) t c, l[i]? = some t → cs[i]? = some c → okT t c.toNat = false → okZ l cs = false
  | [], _, i, t, c, h, _, _ => by simp at h
  | _ :: _, [], i, t, c, _, h, _ => by simp at h
  | a :: l, c :: cs, 0, t, d, h, h', he => by
    simp at h h'; subst h h'
    simp only [okZ, he, Bool.false_and]
  | a :: l, c :: cs, i + 1, t, d, h, h', he => by
    simp only [okZ]
    rw [okZ_bad l cs i t d (by simpa using h) (by simpa using h') he, Bool.and_false]
theorem nmL_at : ∀ {l : List Tree} {i : Nat} {t : Tree}, nmL l = true → l[i]? = some t → nmT t = true
  | [], i, t, _, h => by simp at h
  | a :: l, 0, t, hn, h => by
    simp at h; subst h
    simp only [nmL, Bool.and_eq_true] at hn
    exact hn.1
  | a :: l, i + 1, t, hn, h => by
    simp only [nmL, Bool.and_eq_true] at hn
    exact nmL_at hn.2 (by simpa using h)
theorem formOf_cats (k : Nat) : (formOf k).kids.length ≤ 3 ∧ ∀ c ∈ (formOf k).kids, c.toNat = 101 ∨ c.toNat = 112 ∨ c.toNat = 115 ∨ c.toNat = 98 := by
  by_cases h1 : k = 1
  · subst h1; exact ⟨by decide, by decide⟩
  by_cases h2 : k = 2
  · subst h2; exact ⟨by decide, by decide⟩
  by_cases h3 : k = 3
  · subst h3; exact ⟨by decide, by decide⟩
  by_cases h4 : k = 4
  · subst h4; exact ⟨by decide, by decide⟩
  by_cases h5 : k = 5
  · subst h5; exact ⟨by decide, by decide⟩
  by_cases h40 : k = 40
  · subst h40; exact ⟨by decide, by decide⟩
  by_cases h41 : k = 41
  · subst h41; exact ⟨by decide, by decide⟩
  by_cases h42 : k = 42
  · subst h42; exact ⟨by decide, by decide⟩
  by_cases h43 : k = 43
  · subst h43; exact ⟨by decide, by decide⟩
  by_cases h44 : k = 44
  · subst h44; exact ⟨by decide, by decide⟩
  by_cases h45 : k = 45
  · subst h45; exact ⟨by decide, by decide⟩
  by_cases h46 : k = 46
  · subst h46; exact ⟨by decide, by decide⟩
  have hf : formOf k = ⟨false, 0, 0, [101, 101]⟩ := by
    unfold formOf
    rw [if_neg (by omega), if_neg (by omega), if_neg (by omega), if_neg (by omega), if_neg (by omega), if_neg (by omega), if_neg (by omega), if_neg (by omega), if_neg (by omega), if_neg (by omega), if_neg (by omega)]
  rw [hf]; exact ⟨by decide, by decide⟩
end PP
theorem Blk.below {w w' : World} {g : Nat} {t : TypeId} {cs : Array Value} (h : Blk w g t cs) (hb : Below w.heap.size w w') : Blk w' g t cs := (hb.block g h.lt).trans h
theorem cf_isValid1 (u : Value) (W : World) : Sem.run Tryd.prog (callFunc 25 #[u]) W = .ok (Next.enter 25 #[u]) W := by kernel_rfl
section
set_option maxHeartbeats 2000000
set_option maxRecDepth 100000
theorem isStmt_of {W : World} {k : Nat} {num : Int} {nm : List UInt8} {A : Option Addr} {n c : Nat} {r : Bool}
    (HV : ∀ W', Below W.heap.size W W' → Calls Tryd.prog 13 #[.agg #[.int .u8 (k : Int), .int .i64 num, .string ⟨nm.toArray⟩, .slice A n c], .int .u8 115] W' fun e w' => e = .returned (.bool r) ∧ Below W'.heap.size W' w') :
    Calls Tryd.prog 26 #[.agg #[.int .u8 (k : Int), .int .i64 num, .string ⟨nm.toArray⟩, .slice A n c]] W fun e w' => e = .returned (.bool r) ∧ Below W.heap.size W w' := by
  have hb : Below W.heap.size W (W.alloc (.cells #[.int .u8 (k : Int), .int .i64 num, .string ⟨nm.toArray⟩, .slice A n c] 24)) := (Below.refl _ _).alloc (Nat.le_refl _) _
  have HC := Lib.hid (HV _ hb)
  have HB := Lib.hid hb
  clear HV hb
  go_enter Tryd.func26, Tryd.ntmps26
  go_wp2_with fail
  refine HC.out.mono ?_
  rintro e w1 ⟨rfl, hb1⟩
  have HB1 := Lib.hid (HB.out.trans (hb1.mono HB.out.size))
  clear hb1
  go_wp2_with fail
  go_ret
  exact ⟨rfl, HB1.out⟩
theorem isBlock_of {W : World} {k : Nat} {num : Int} {nm : List UInt8} {A : Option Addr} {n c : Nat} {r : Bool}
    (HV : ∀ W', Below W.heap.size W W' → Calls Tryd.prog 13 #[.agg #[.int .u8 (k : Int), .int .i64 num, .string ⟨nm.toArray⟩, .slice A n c], .int .u8 98] W' fun e w' => e = .returned (.bool r) ∧ Below W'.heap.size W' w') :
    Calls Tryd.prog 6 #[.agg #[.int .u8 (k : Int), .int .i64 num, .string ⟨nm.toArray⟩, .slice A n c]] W fun e w' => e = .returned (.bool r) ∧ Below W.heap.size W w' := by
  have hb : Below W.heap.size W (W.alloc (.cells #[.int .u8 (k : Int), .int .i64 num, .string ⟨nm.toArray⟩, .slice A n c] 24)) := (Below.refl _ _).alloc (Nat.le_refl _) _
  have HC := Lib.hid (HV _ hb)
  have HB := Lib.hid hb
  clear HV hb
  go_enter Tryd.func6, Tryd.ntmps6
  go_wp2_with fail
  refine HC.out.mono ?_
  rintro e w1 ⟨rfl, hb1⟩
  have HB1 := Lib.hid (HB.out.trans (hb1.mono HB.out.size))
  clear hb1
  go_wp2_with fail
  go_ret
  exact ⟨rfl, HB1.out⟩
theorem isExpr_of {W : World} {k : Nat} {num : Int} {nm : List UInt8} {A : Option Addr} {n c : Nat} {r : Bool}
    (HV : ∀ W', Below W.heap.size W W' → Calls Tryd.prog 13 #[.agg #[.int .u8 (k : Int), .int .i64 num, .string ⟨nm.toArray⟩, .slice A n c], .int .u8 101] W' fun e w' => e = .returned (.bool r) ∧ Below W'.heap.size W' w') :
    Calls Tryd.prog 21 #[.agg #[.int .u8 (k : Int), .int .i64 num, .string ⟨nm.toArray⟩, .slice A n c]] W fun e w' => e = .returned (.bool r) ∧ Below W.heap.size W w' := by
  have hb : Below W.heap.size W (W.alloc (.cells #[.int .u8 (k : Int), .int .i64 num, .string ⟨nm.toArray⟩, .slice A n c] 24)) := (Below.refl _ _).alloc (Nat.le_refl _) _
  have HC := Lib.hid (HV _ hb)
  have HB := Lib.hid hb
  clear HV hb
  go_enter Tryd.func21, Tryd.ntmps21
  go_wp2_with fail
  refine HC.out.mono ?_
  rintro e w1 ⟨rfl, hb1⟩
  have HB1 := Lib.hid (HB.out.trans (hb1.mono HB.out.size))
  clear hb1
  go_wp2_with fail
  go_ret
  exact ⟨rfl, HB1.out⟩
theorem isValid1_of {W : World} {k : Nat} {num : Int} {nm : List UInt8} {A : Option Addr} {n c : Nat} {r : Bool}
    (HV : ∀ W', Below W.heap.size W W' → Calls Tryd.prog 13 #[.agg #[.int .u8 (k : Int), .int .i64 num, .string ⟨nm.toArray⟩, .slice A n c], .int .u8 115] W' fun e w' => e = .returned (.bool r) ∧ Below W'.heap.size W' w') :
    Calls Tryd.prog 25 #[.agg #[.int .u8 (k : Int), .int .i64 num, .string ⟨nm.toArray⟩, .slice A n c]] W fun e w' => e = .returned (.bool (!r)) ∧ Below W.heap.size W w' := by
  have hnot : ∀ (x : Bool) (w : World), (Op.unary .not (.bool x)).run Tryd.prog w = .ok (.bool (!x)) w := fun _ _ => rfl
  have hb : Below W.heap.size W (W.alloc (.cells #[.int .u8 (k : Int), .int .i64 num, .string ⟨nm.toArray⟩, .slice A n c] 24)) := (Below.refl _ _).alloc (Nat.le_refl _) _
  have HC := Lib.hid (isStmt_of (W := W.alloc (.cells #[.int .u8 (k : Int), .int .i64 num, .string ⟨nm.toArray⟩, .slice A n c] 24)) (fun W' h' => HV W' (hb.trans (h'.mono hb.size))))
  have HB := Lib.hid hb
  clear HV hb
  go_enter Tryd.func25, Tryd.ntmps25
  go_wp2_with fail
  refine HC.out.mono ?_
  rintro e w1 ⟨rfl, hb1⟩
  have HB1 := Lib.hid (HB.out.trans (hb1.mono HB.out.size))
  clear hb1
  go_wp2_with fail
  go_ret
  exact ⟨rfl, HB1.out⟩
def StmRel (kids : List Tree) (w : World) (i : Value) (wr : World) : Prop := ∃ j : Nat, j ≤ kids.length ∧ i = .int .i64 (j : Int) ∧ (∀ l t, l < j → kids[l]? = some t → PP.okT t 115 = true) ∧ Below w.heap.size w wr
theorem indexNode_of {w : World} {Z : Nat → Prop} {A : Option Addr} {kids : List Tree} {c : Nat} (h : KidsC w Z A kids) (hl : kids.length ≤ 1000000)
    (HE : ∀ (i : Nat) k num nm A1 c1 ks, kids[i]? = some (Tree.node k num nm ks) → KidsC w Z A1 ks → ∀ W, Below w.heap.size w W →
      Calls Tryd.prog 13 #[.agg #[.int .u8 ((k : Nat) : Int), .int .i64 num, .string ⟨(nm : List UInt8).toArray⟩, .slice A1 (ks : List Tree).length c1], .int .u8 115] W fun e w' => e = .returned (.bool (PP.okT (.node k num nm ks) 115)) ∧ Below W.heap.size W w') :
    Calls Tryd.prog 39 #[.slice A kids.length c, .func (.func 25) #[] #[]] w fun e w' => ∃ i : Int, e = .returned (.int .i64 i) ∧ decide (0 ≤ i) = !PP.okS kids ∧ Below w.heap.size w w' := by
  have hcf := fun (u : Value) (W : World) => cf_isValid1 u W
  have HH := Lib.hid h
  have HHE := Lib.hid HE
  clear h HE
  go_enter Tryd.func39, Tryd.ntmps39
  go_wp2_with fail
  go_loopw [8] (fun i wr => StmRel kids w i wr) (fun i _ => kids.length - (intOf i).toNat)
  case atStart => exact ⟨0, Nat.zero_le _, rfl, fun l _ h => by omega, Below.refl _ _⟩
  case round =>
    obtain ⟨j, hj, rfl, hall, hbr⟩ := hrel
    have hsz := hbr.size
    by_cases hlt : j < kids.length
    · have hne : kids ≠ [] := by intro e; rw [e] at hlt; simp at hlt
      obtain ⟨g, o, rfl, _, hg, hat⟩ := HH.out.at_ hne
      obtain ⟨k, num, nm, A1, c1, ks, ht, ⟨x0, x1, x2, x3⟩, hk⟩ := hat j _ (List.getElem?_eq_getElem hlt)
      have hkj : kids[j]? = some (.node k num nm ks) := by rw [List.getElem?_eq_getElem hlt, ht]
      have d0 := (hbr.cell (p := ⟨g, o + j * 4, none⟩) hg).trans x0
      have d1 := (hbr.cell (p := ⟨g, o + j * 4 + 1, none⟩) hg).trans x1
      have d2 := (hbr.cell (p := ⟨g, o + j * 4 + 2, none⟩) hg).trans x2
      have d3 := (hbr.cell (p := ⟨g, o + j * 4 + 3, none⟩) hg).trans x3
      have hgv : g < wr.heap.size := by omega
      have hcall := isValid1_of (W := wr) (k := k) (num := num) (nm := nm) (A := A1) (n := ks.length) (c := c1) (fun W' h' => HHE.out j k num nm A1 c1 ks hkj hk W' (hbr.trans (h'.mono hsz)))
      have hgood : PP.okT (.node k num nm ks) 115 = true → ∀ l t, l < j + 1 → kids[l]? = some t → PP.okT t 115 = true := by
        intro he l t hll h1
        rcases Nat.lt_or_ge l j with h | h
        · exact hall l t h h1
        · obtain rfl : l = j := by omega
          rw [hkj] at h1
          injection h1 with h1
          subst h1; exact he
      have hbad : PP.okT (.node k num nm ks) 115 = false → PP.okS kids = false := PP.okS_bad kids j _ hkj
      have HGOOD := Lib.hid hgood
      have HBAD := Lib.hid hbad
      have p1 : (0 : Int) ≤ (j : Int) := by omega
      have p2 : (j : Int) < (kids.length : Int) := by omega
      clear hgood hbad hall hkj hk hat ht x0 x1 x2 x3 hne
      cases he : PP.okT (.node k num nm ks) 115 with
      | true =>
        rw [he] at hcall
        have HC := Lib.hid hcall
        have HE2 := Lib.hid he
        clear hcall he
        go_wp2_with fail
        refine HC.out.mono ?_
        rintro e w2 ⟨rfl, hb2⟩
        have HB3 := Lib.hid (hbr.trans (hb2.mono hsz))
        clear hb2 d0 d1 d2 d3 HC
        go_wp2_with fail
        go_roundw
        case rel => exact ⟨j + 1, by omega, by go_num, HGOOD.out HE2.out, HB3.out⟩
        case measure => simp [intOf]; omega
      | false =>
        rw [he] at hcall
        have HC := Lib.hid hcall
        have HE2 := Lib.hid (HBAD.out he)
        clear hcall he
        go_wp2_with fail
        refine HC.out.mono ?_
        rintro e w2 ⟨rfl, hb2⟩
        have HB3 := Lib.hid (hbr.trans (hb2.mono hsz))
        clear hb2 d0 d1 d2 d3 HC
        go_wp2_with fail
        go_ret
        exact ⟨_, rfl, by rw [HE2.out]; simp, HB3.out⟩
    · have HR := Lib.hid (PP.okS_at kids (fun i t h1 => hall i t (by have := (List.getElem?_eq_some_iff.1 h1).1; omega) h1))
      clear hall
      go_wp2_with fail
      go_ret
      exact ⟨_, rfl, by rw [HR.out]; rfl, hbr⟩
theorem containsNode_of {w : World} {Z : Nat → Prop} {A : Option Addr} {kids : List Tree} {c : Nat} (h : KidsC w Z A kids) (hl : kids.length ≤ 1000000)
    (HE : ∀ (i : Nat) k num nm A1 c1 ks, kids[i]? = some (Tree.node k num nm ks) → KidsC w Z A1 ks → ∀ W, Below w.heap.size w W →
      Calls Tryd.prog 13 #[.agg #[.int .u8 ((k : Nat) : Int), .int .i64 num, .string ⟨(nm : List UInt8).toArray⟩, .slice A1 (ks : List Tree).length c1], .int .u8 115] W fun e w' => e = .returned (.bool (PP.okT (.node k num nm ks) 115)) ∧ Below W.heap.size W w') :
    Calls Tryd.prog 24 #[.slice A kids.length c, .func (.func 25) #[] #[]] w fun e w' => e = .returned (.bool (!PP.okS kids)) ∧ Below w.heap.size w w' := by
  have HC := Lib.hid (indexNode_of (c := c) h hl HE)
  clear h HE
  go_enter Tryd.func24, Tryd.ntmps24
  go_wp2_with fail
  refine HC.out.mono ?_
  rintro e w2 ⟨i, rfl, hi, hb2⟩
  go_wp2_with fail
  go_ret
  exact ⟨by rw [← hi]; rfl, hb2⟩
end
end Go.Proofs.YtkeehpgnljieeaaDoor
