/- The contract of ast.Equal. -/
import Derived.Test.YtfakdbnfpdalhaaGreatDoorKF
namespace Go.Proofs.YtfakdbnfpdalhaaGreatDoor
open Go.RowKit Go.Maps
open PP (Tree)

namespace PP
mutual
def eqT : Tree → Tree → Bool
  | .node k n s ks, .node k' n' s' ks' => k == k' && n == n' && s == s' && eqL ks ks'
def eqL : List Tree → List Tree → Bool
  | [], [] => true
  | a :: l, b :: m => eqT a b && eqL l m
  | _, _ => false
end
theorem eqL_len : ∀ (l m : List Tree), l.length ≠ m.length → eqL l m = false
  | [], [], h => absurd rfl h
  | [], _ :: _, _ => rfl
  | _ :: _, [], _ => rfl
  | a :: l, b :: m, h => by
    simp only [eqL]
    rw [eqL_len l m (by simpa using h), Bool.and_false]
theorem eqL_bad : ∀ (l m : List Tree) (i : Nat) (t t' : Tree), l[i]? = some t → m[i]? = some t' → eqT t t' = false → eqL l m = false
  | [], _, i, t, t', h, _, _ => by simp at h
  | _ :: _, [], i, t, t', _, h, _ => by simp at h
  | a :: l, b :: m, 0, t, t', h, h', he => by
    simp at h h'; subst h h'
    simp only [eqL, he, Bool.false_and]
  | a :: l, b :: m, i + 1, t, t', h, h', he => by
    simp only [eqL]
    rw [eqL_bad l m i t t' (by simpa using h) (by simpa using h') he, Bool.and_false]
theorem eqL_all : ∀ (l m : List Tree), l.length = m.length → (∀ (i : Nat) t t', l[i]? = some t → m[i]? = some t' → eqT t t' = true) → eqL l m = true
  | [], [], _, _ => rfl
  | [], _ :: _, h, _ => by simp at h
  | _ :: _, [], h, _ => by simp at h
  | a :: l, b :: m, h, hh => by
    simp only [eqL]
    rw [hh 0 a b rfl rfl, eqL_all l m (by simpa using h) (fun i t t' h1 h2 => hh (i + 1) t t' (by simpa using h1) (by simpa using h2))]
    rfl
mutual
theorem eqT_refl : ∀ t : Tree, eqT t t = true
  | .node k n s ks => by simp only [eqT, beq_self_eq_true, Bool.true_and]; exact eqL_refl ks
theorem eqL_refl : ∀ l : List Tree, eqL l l = true
  | [] => rfl
  | a :: l => by simp only [eqL, eqT_refl a, eqL_refl l]; rfl
end
end PP
theorem cf_equal (u v : Value) (W : World) : Sem.run Tryz.prog (callFunc 23 #[u, v]) W = .ok (Next.enter 23 #[u, v]) W := by kernel_rfl
def nodeVal (k : Nat) (num : Int) (nm : List UInt8) (A : Option Addr) (n c : Nat) : Value := .agg #[.int .u8 (k : Int), .int .i64 num, .string ⟨nm.toArray⟩, .slice A n c]
def EqRel (kids kids' : List Tree) (w : World) (i : Value) (wr : World) : Prop := ∃ j : Nat, j ≤ kids.length ∧ i = .int .i64 (j : Int) ∧ (∀ l t t', l < j → kids[l]? = some t → kids'[l]? = some t' → PP.eqT t t' = true) ∧ Below w.heap.size w wr
section
set_option maxHeartbeats 2000000
set_option maxRecDepth 100000
theorem equalFunc_of {w : World} {Z Z' : Nat → Prop} {A A' : Option Addr} {kids kids' : List Tree} {c c' : Nat} (h : KidsC w Z A kids) (h' : KidsC w Z' A' kids') (hl : kids.length ≤ 1000000)
    (HE : ∀ (i : Nat) k num nm A1 c1 ks k' num' nm' A1' c1' ks', kids[i]? = some (Tree.node k num nm ks) → kids'[i]? = some (Tree.node k' num' nm' ks') → KidsC w Z A1 ks → KidsC w Z' A1' ks' → ∀ W, Below w.heap.size w W →
      Calls Tryz.prog 23 #[.agg #[.int .u8 ((k : Nat) : Int), .int .i64 num, .string ⟨(nm : List UInt8).toArray⟩, .slice A1 (ks : List Tree).length c1], .agg #[.int .u8 ((k' : Nat) : Int), .int .i64 num', .string ⟨(nm' : List UInt8).toArray⟩, .slice A1' (ks' : List Tree).length c1']] W fun e w' => e = .returned (.bool (PP.eqT (.node k num nm ks) (.node k' num' nm' ks'))) ∧ Below W.heap.size W w') :
    Calls Tryz.prog 60 #[.slice A kids.length c, .slice A' kids'.length c', .func (.func 23) #[] #[]] w fun e w' => e = .returned (.bool (PP.eqL kids kids')) ∧ Below w.heap.size w w' := by
  have hcf := fun (u v : Value) (W : World) => cf_equal u v W
  have hnot : ∀ (x : Bool) (w : World), (Op.unary .not (.bool x)).run Tryz.prog w = .ok (.bool (!x)) w := fun _ _ => rfl
  by_cases hlen : kids.length = kids'.length
  · have e1 : ((kids.length : Int) != (kids'.length : Int)) = false := by simp [hlen]
    have e2 : (kids.length != kids'.length) = false := by simp [hlen]
    have HH := Lib.hid h
    have HH' := Lib.hid h'
    have HHE := Lib.hid HE
    have HL := Lib.hid hlen
    have hl2 : kids'.length ≤ 1000000 := by omega
    have hge : kids.length ≤ kids'.length := by omega
    clear h h' HE hlen
    go_enter Tryz.func60, Tryz.ntmps60
    go_wp2_with fail
    go_loopw [17] (fun i wr => EqRel kids kids' w i wr) (fun i _ => kids.length - (intOf i).toNat)
    case atStart => exact ⟨0, Nat.zero_le _, rfl, fun l _ _ h => by omega, Below.refl _ _⟩
    case round =>
      obtain ⟨j, hj, rfl, hall, hbr⟩ := hrel
      have hsz := hbr.size
      by_cases hlt : j < kids.length
      · have hne : kids ≠ [] := by intro e; rw [e] at hlt; simp at hlt
        have hne' : kids' ≠ [] := by intro e; have : kids'.length = 0 := by rw [e]; rfl
                                     omega
        obtain ⟨g, o, rfl, _, hg, hat⟩ := HH.out.at_ hne
        obtain ⟨g', o', rfl, _, hg', hat'⟩ := HH'.out.at_ hne'
        obtain ⟨k, num, nm, A1, c1, ks, ht, ⟨x0, x1, x2, x3⟩, hk⟩ := hat j _ (List.getElem?_eq_getElem hlt)
        obtain ⟨k', num', nm', A1', c1', ks', ht', ⟨y0, y1, y2, y3⟩, hk'⟩ := hat' j _ (List.getElem?_eq_getElem (by omega : j < kids'.length))
        have hkj : kids[j]? = some (.node k num nm ks) := by rw [List.getElem?_eq_getElem hlt, ht]
        have hkj' : kids'[j]? = some (.node k' num' nm' ks') := by rw [List.getElem?_eq_getElem (by omega : j < kids'.length), ht']
        have d0 := (hbr.cell (p := ⟨g, o + j * 4, none⟩) hg).trans x0
        have d1 := (hbr.cell (p := ⟨g, o + j * 4 + 1, none⟩) hg).trans x1
        have d2 := (hbr.cell (p := ⟨g, o + j * 4 + 2, none⟩) hg).trans x2
        have d3 := (hbr.cell (p := ⟨g, o + j * 4 + 3, none⟩) hg).trans x3
        have f0 := (hbr.cell (p := ⟨g', o' + j * 4, none⟩) hg').trans y0
        have f1 := (hbr.cell (p := ⟨g', o' + j * 4 + 1, none⟩) hg').trans y1
        have f2 := (hbr.cell (p := ⟨g', o' + j * 4 + 2, none⟩) hg').trans y2
        have f3 := (hbr.cell (p := ⟨g', o' + j * 4 + 3, none⟩) hg').trans y3
        have hgw : g' < wr.heap.size := by omega
        have hgv : g < wr.heap.size := by omega
        have hcall := HHE.out j k num nm A1 c1 ks k' num' nm' A1' c1' ks' hkj hkj' hk hk' ((wr.alloc (.cells #[.int .u8 (k : Int), .int .i64 num, .string ⟨nm.toArray⟩, .slice A1 ks.length c1] 36)).alloc (.cells #[.int .u8 (k' : Int), .int .i64 num', .string ⟨nm'.toArray⟩, .slice A1' ks'.length c1'] 36)) ((hbr.alloc hsz _).alloc (by simp; omega) _)
        have hgood : PP.eqT (.node k num nm ks) (.node k' num' nm' ks') = true → ∀ l t t', l < j + 1 → kids[l]? = some t → kids'[l]? = some t' → PP.eqT t t' = true := by
          intro he l t t' hll h1 h2
          rcases Nat.lt_or_ge l j with h | h
          · exact hall l t t' h h1 h2
          · obtain rfl : l = j := by omega
            rw [hkj] at h1; rw [hkj'] at h2
            injection h1 with h1; injection h2 with h2
            subst h1 h2; exact he
        have hbad : PP.eqT (.node k num nm ks) (.node k' num' nm' ks') = false → PP.eqL kids kids' = false := PP.eqL_bad kids kids' j _ _ hkj hkj'
        have HGOOD := Lib.hid hgood
        have HBAD := Lib.hid hbad
        have p1 : (0 : Int) ≤ (j : Int) := by omega
        have p2 : (j : Int) < (kids.length : Int) := by omega
        have p3 : (j : Int) < (kids'.length : Int) := by omega
        clear hgood hbad hall hkj hkj' hk hk' hat hat' ht ht' x0 x1 x2 x3 y0 y1 y2 y3 hne hne'
        cases he : PP.eqT (.node k num nm ks) (.node k' num' nm' ks') with
        | true =>
          rw [he] at hcall
          have HC := Lib.hid hcall
          have HE2 := Lib.hid he
          clear hcall he
          go_wp2_with fail
          refine HC.out.mono ?_
          rintro e w2 ⟨rfl, hb2⟩
          have hb3 : Below w.heap.size w w2 := ((hbr.alloc hsz _).alloc (by simp; omega) _).trans (hb2.mono (by simp; omega))
          clear hb2 d0 d1 d2 d3 f0 f1 f2 f3 HC
          go_wp2_with fail
          go_roundw
          case rel => exact ⟨j + 1, by omega, by go_num, HGOOD.out HE2.out, hb3⟩
          case measure => simp [intOf]; omega
        | false =>
          rw [he] at hcall
          have HC := Lib.hid hcall
          have HE2 := Lib.hid (HBAD.out he)
          clear hcall he
          go_wp2_with fail
          refine HC.out.mono ?_
          rintro e w2 ⟨rfl, hb2⟩
          have hb3 : Below w.heap.size w w2 := ((hbr.alloc hsz _).alloc (by simp; omega) _).trans (hb2.mono (by simp; omega))
          clear hb2 d0 d1 d2 d3 f0 f1 f2 f3 HC
          go_wp2_with fail
          go_ret
          exact ⟨by rw [HE2.out]; rfl, hb3⟩
      · have HR := Lib.hid (PP.eqL_all kids kids' HL.out (fun i t t' h1 h2 => hall i t t' (by have := (List.getElem?_eq_some_iff.1 h1).1; omega) h1 h2))
        clear hall
        go_wp2_with fail
        go_ret
        exact ⟨by rw [HR.out]; rfl, hbr⟩
  · have e1 : ((kids.length : Int) != (kids'.length : Int)) = true := by simp; omega
    have e2 : (kids.length != kids'.length) = true := by simp; omega
    have HR := Lib.hid (PP.eqL_len kids kids' hlen)
    have hl2 := hlen
    clear h h' HE hlen hl2
    go_enter Tryz.func60, Tryz.ntmps60
    go_wp2_with fail
    go_ret
    exact ⟨by rw [HR.out]; rfl, Below.refl _ _⟩
theorem equal_upto (n : Nat) : ∀ (kids : List Tree), PP.sizeL kids ≤ n → ∀ (W : World) (Z : Nat → Prop) (A : Option Addr), KidsC W Z A kids → ∀ (k : Nat) (num : Int) (nm : List UInt8) (c : Nat) (k' : Nat) (num' : Int) (nm' : List UInt8) (A' : Option Addr) (c' : Nat) (kids' : List Tree) (Z' : Nat → Prop), KidsC W Z' A' kids' → n ≤ 1000000 →
    Calls Tryz.prog 23 #[.agg #[.int .u8 (k : Int), .int .i64 num, .string ⟨nm.toArray⟩, .slice A kids.length c], .agg #[.int .u8 (k' : Int), .int .i64 num', .string ⟨nm'.toArray⟩, .slice A' kids'.length c']] W fun e w' => e = .returned (.bool (PP.eqT (.node k num nm kids) (.node k' num' nm' kids'))) ∧ Below W.heap.size W w' := by
  induction n using Nat.strongRecOn with
  | ind n ih =>
    intro kids hs W Z A h k num nm c k' num' nm' A' c' kids' Z' h' hn
    have hlen := PP.len_sizeL kids
    have hb2 : Below W.heap.size W ((W.alloc (.cells #[.int .u8 (k : Int), .int .i64 num, .string ⟨nm.toArray⟩, .slice A kids.length c] 36)).alloc (.cells #[.int .u8 (k' : Int), .int .i64 num', .string ⟨nm'.toArray⟩, .slice A' kids'.length c'] 36)) := ((Below.refl _ _).alloc (Nat.le_refl _) _).alloc (by simp) _
    have h2 := h.keep (((Keep.refl Z W).alloc (.cells #[.int .u8 (k : Int), .int .i64 num, .string ⟨nm.toArray⟩, .slice A kids.length c] 36)).alloc (.cells #[.int .u8 (k' : Int), .int .i64 num', .string ⟨nm'.toArray⟩, .slice A' kids'.length c'] 36))
    have h2' := h'.keep (((Keep.refl Z' W).alloc (.cells #[.int .u8 (k : Int), .int .i64 num, .string ⟨nm.toArray⟩, .slice A kids.length c] 36)).alloc (.cells #[.int .u8 (k' : Int), .int .i64 num', .string ⟨nm'.toArray⟩, .slice A' kids'.length c'] 36))
    have hfun := equalFunc_of (c := c) (c' := c') h2 h2' (by omega) (by
      intro i k1 num1 nm1 A1 c1 ks1 k1' num1' nm1' A1' c1' ks1' hi hi' hk1 hk1' W3 hb3
      have hm := PP.size_mem (List.mem_of_getElem? hi)
      simp only [PP.Tree.size] at hm
      exact ih (PP.sizeL ks1) (by omega) ks1 (Nat.le_refl _) W3 Z A1 (hk1.keep ⟨hb3.size, fun g _ hg => hb3.block g hg⟩) k1 num1 nm1 c1 k1' num1' nm1' A1' c1' ks1' Z' (hk1'.keep ⟨hb3.size, fun g _ hg => hb3.block g hg⟩) (by omega))
    have HF := Lib.hid hfun
    have HB2 := Lib.hid hb2
    have heq : PP.eqT (.node k num nm kids) (.node k' num' nm' kids') = (k == k' && num == num' && nm == nm' && PP.eqL kids kids') := by simp only [PP.eqT]
    generalize PP.eqT (.node k num nm kids) (.node k' num' nm' kids') = R at *
    have HEQ := Lib.hid heq
    clear h h' h2 h2' hfun hb2 ih heq
    cases e1 : (k == k') with
    | false =>
      have x1 : ((k : Int) == (k' : Int)) = false := by simp at e1 ⊢; omega
      have HR := Lib.hid (show R = false by rw [HEQ.out, e1]; rfl)
      clear e1
      go_enter Tryz.func23, Tryz.ntmps23
      go_wp2_with fail
      go_ret
      exact ⟨by rw [HR.out]; rfl, HB2.out⟩
    | true =>
      have x1 : ((k : Int) == (k' : Int)) = true := by simp at e1 ⊢; omega
      have E1 := Lib.hid e1
      clear e1
      cases e2 : (num == num') with
      | false =>
        have HR := Lib.hid (show R = false by rw [HEQ.out, E1.out, e2]; rfl)
        go_enter Tryz.func23, Tryz.ntmps23
        go_wp2_with fail
        go_ret
        exact ⟨by rw [HR.out]; rfl, HB2.out⟩
      | true =>
        cases e3 : (nm == nm') with
        | false =>
          have HR := Lib.hid (show R = false by rw [HEQ.out, E1.out, e2, e3]; rfl)
          go_enter Tryz.func23, Tryz.ntmps23
          go_wp2_with fail
          go_ret
          exact ⟨by rw [HR.out]; rfl, HB2.out⟩
        | true =>
          have HR := Lib.hid (show R = PP.eqL kids kids' by rw [HEQ.out, E1.out, e2, e3]; rfl)
          go_enter Tryz.func23, Tryz.ntmps23
          go_wp2_with fail
          refine HF.out.mono ?_
          rintro e w3 ⟨rfl, hb3⟩
          have HB3 := Lib.hid (HB2.out.trans (hb3.mono HB2.out.size))
          clear hb3
          go_wp2_with fail
          go_ret
          exact ⟨by rw [HR.out]; rfl, HB3.out⟩
theorem equal_any {W : World} {Z Z' : Nat → Prop} {v v' : Value} {t t' : Tree} (h : NodeV W Z v t) (h' : NodeV W Z' v' t') (hs : t.size ≤ 1000000) :
    Calls Tryz.prog 23 #[v, v'] W fun e w' => e = .returned (.bool (PP.eqT t t')) ∧ Below W.heap.size W w' := by
  obtain ⟨k, num, nm, A, c, kids, rfl, rfl, hk⟩ := h
  obtain ⟨k', num', nm', A', c', kids', rfl, rfl, hk'⟩ := h'
  simp only [PP.Tree.size] at hs
  exact equal_upto (PP.sizeL kids) kids (Nat.le_refl _) W Z A hk k num nm c k' num' nm' A' c' kids' Z' hk' (by omega)
end
end Go.Proofs.YtfakdbnfpdalhaaGreatDoor
