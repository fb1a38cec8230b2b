/- The contract of the parser's unary. -/
import Derived.Test.YtaaaicpjlaeiiaaDoorParG
namespace Go.Proofs.YtaaaicpjlaeiiaaDoor
open Go.RowKit Go.Maps
open PP (Tree)

theorem idx_ops0 (W : World) : (Instr.index 162 (.agg #[.int .u8 4, .int .u8 5]) (.int .i64 0)).run Tryd.prog W = .ok (.int .u8 4) W := by kernel_rfl
theorem idx_ops1 (W : World) : (Instr.index 162 (.agg #[.int .u8 4, .int .u8 5]) (.int .i64 1)).run Tryd.prog W = .ok (.int .u8 5) W := by kernel_rfl
/-- What the loop over the unary operators has seen. -/
def UnRel (E : PP.Env) (σ : PP.St) (w0 : World) (i : Value) (wr : World) : Prop :=
  ∃ m : Nat, wr = w0.drewN m ∧ (i = .int .i64 0 ∨ (i = .int .i64 1 ∧ PP.sees E σ [45] = false) ∨ (i = .int .i64 2 ∧ PP.sees E σ [45] = false ∧ PP.sees E σ [33] = false))

/-- Four stores into an old block, and a new block. -/
theorem st4_alloc (w : World) (o : Obj) (g : Nat) (v0 v1 v2 v3 : Value) (hg : g < w.heap.size) :
    (((((w.alloc o).setCell ⟨g, 0, none⟩ v0).setCell ⟨g, 1, none⟩ v1).setCell ⟨g, 2, none⟩ v2).setCell ⟨g, 3, none⟩ v3) = (((((w.setCell ⟨g, 0, none⟩ v0).setCell ⟨g, 1, none⟩ v1).setCell ⟨g, 2, none⟩ v2).setCell ⟨g, 3, none⟩ v3).alloc o) := by
  have hs : ∀ (W : World) j v, (W.setCell ⟨g, j, none⟩ v).heap.size = W.heap.size := fun W j v => by simp [World.setCell]
  rw [World.setCell_alloc_past (w := w) o g 0 v0 hg, World.setCell_alloc_past o g 1 v1 (by rw [hs]; exact hg), World.setCell_alloc_past o g 2 v2 (by rw [hs, hs]; exact hg), World.setCell_alloc_past o g 3 v3 (by rw [hs, hs, hs]; exact hg)]

section
set_option maxHeartbeats 800000
set_option maxRecDepth 100000
variable {b : Nat} {X : Loc} {E : PP.Env} {σ : PP.St}
theorem unary_any (w : World) (hg : Gx w b X) (h : PS w b X E σ)
    (IH : ∀ σ' w', Gx w' b X → PS w' b X E σ' → σ.next < σ'.next → Calls Tryd.prog 61 #[.pointer (some ⟨b, 0, none⟩)] w' (TreeEnd b X E σ' w' fun σ'' t => ∃ n, PP.binary E n 0 σ' = some (σ'', t)))
    (IHU : ∀ σ' w', Gx w' b X → PS w' b X E σ' → σ.next < σ'.next → Calls Tryd.prog 122 #[.pointer (some ⟨b, 0, none⟩)] w' (TreeEnd b X E σ' w' fun σ'' t => ∃ n, PP.unary E n σ' = some (σ'', t))) :
    Calls Tryd.prog 122 #[.pointer (some ⟨b, 0, none⟩)] w (TreeEnd b X E σ w fun σ' t => ∃ n, PP.unary E n σ = some (σ', t)) := by
  have hbl := h.lt
  have hlen := h.len
  have HIU := Lib.hid IHU
  have HPR := Lib.hid (fun w' (hg' : Gx w' b X) (h' : PS w' b X E σ) => primary_any w' hg' h' IH)
  clear IH IHU
  have hz := Blk.new w 24 #[.int .u8 0, .int .i64 0, .string ⟨#[]⟩, .slice none 0 0]
  have h0 := h.alloc (.cells #[.int .u8 0, .int .i64 0, .string ⟨#[]⟩, .slice none 0 0] 24)
  have hf0 := (Fr.refl b w).alloc (.cells #[.int .u8 0, .int .i64 0, .string ⟨#[]⟩, .slice none 0 0] 24)
  have hg0 := hg.fr hf0
  generalize hW : w.alloc (.cells #[.int .u8 0, .int .i64 0, .string ⟨#[]⟩, .slice none 0 0] 24) = w0 at *
  have HW := Lib.hid hW
  have H0 := Lib.hid h
  have HH0 := Lib.hid h0
  have HF0 := Lib.hid hf0
  have HG0 := Lib.hid hg0
  have HZ := Lib.hid hz
  clear hW h hg h0 hf0 hg0 hz
  have ix0 := idx_ops0
  have ix1 := idx_ops1
  go_enter Tryd.func122, Tryd.ntmps122
  go_wp2_with fail
  rw [HW.out]
  go_loopw [6] (fun i wr => UnRel E σ w0 i wr) (fun i _ => 2 - (intOf i).toNat)
  case atStart => exact ⟨0, rfl, .inl rfl⟩
  case round =>
    obtain ⟨m, rfl, hrel⟩ := hrel
    rcases hrel with rfl | ⟨rfl, hs1⟩ | ⟨rfl, hs1, hs2⟩
    · have hsy := fun n => symbol_any 4 (w0.drewN n) (HG0.out.fr ((Fr.refl b w0).drewN n)).ops (by omega)
      have hse := fun n => sees_any ⟨#[45]⟩ (w0.drewN n) (HH0.out.drewN n)
      rw [show (⟨#[45]⟩ : ByteArray).data.toList = [45] from rfl] at hse
      cases hc : PP.sees E σ [45] with
      | false =>
        rw [hc] at hse
        have HSY := Lib.hid hsy
        have HSE := Lib.hid hse
        have HC := Lib.hid hc
        clear hsy hse hc
        go_wp2_with fail
        refine (HSY.out _).mono ?_
        rintro e w1 ⟨rfl, rfl⟩
        go_wp2_with fail
        refine (HSE.out _).mono ?_
        rintro e w2 ⟨rfl, n2, rfl⟩
        go_wp2_with fail
        go_roundw
        case rel => exact ⟨_, rfl, .inr (.inl ⟨rfl, HC.out⟩)⟩
        case measure => simp [intOf]
      | true =>
        rw [hc] at hse
        have hn1 := next_of_sees hc
        have hfin : ∀ n r, PP.unary E n (PP.adv σ) = some r → PP.unary E (n + 1) σ = some (r.1, .node 4 0 [] [r.2]) := by
          intro n r hr
          rw [PP.unary]; simp only [hc, hr]; rfl
        have HSY := Lib.hid hsy
        have HSE := Lib.hid hse
        have HFIN := Lib.hid hfin
        clear hsy hse hc hfin
        obtain ⟨_, c1, _, _, _, _⟩ := HH0.out.cells
        have f1 := HH0.out.frozen 1
        go_wp2_with fail
        refine (HSY.out _).mono ?_
        rintro e w1 ⟨rfl, rfl⟩
        go_wp2_with fail
        refine (HSE.out _).mono ?_
        rintro e w2 ⟨rfl, n2, rfl⟩
        have h2 := (HH0.out.drewN (m + n2)).setNext (σ.next + 1) (by omega)
        have hF2 := (HF0.out.drewN (m + n2)).set 1 (.int .i64 ((σ.next : Int) + 1))
        have hz2 := (HZ.out.drewN (m + n2)).far (p := ⟨b, 1, none⟩) (by show w.heap.size ≠ b; omega) (.int .i64 ((σ.next : Int) + 1))
        have hg2 := HG0.out.fr ((Fr.refl b w0).drewN (m + n2) |>.set 1 (.int .i64 ((σ.next : Int) + 1)))
        have HH2 := Lib.hid h2
        have HF2 := Lib.hid hF2
        have HZ2 := Lib.hid hz2
        have HG2 := Lib.hid hg2
        clear h2 hF2 hz2 hg2
        go_wp2_with fail
        refine (HIU.out _ _ HG2.out HH2.out (by show σ.next < σ.next + 1; omega)).mono ?_
        rintro e w5 ⟨v5, t5, σ5, rfl, hN5, h5, hf5, ⟨n5, hr5⟩, hn5⟩
        obtain ⟨k5, num5, nm5, A5, c5, kids5, rfl, rfl, hk5⟩ := hN5
        have hF5 := HF2.out.trans hf5
        have hz5 := HZ2.out.fr hf5 (by omega)
        have hs5 := hz5.lt
        have HR5 := Lib.hid hr5
        have hk5' : KidsC w5 (fun g => w.heap.size ≤ g ∧ g ≠ w.heap.size) A5 kids5 := hk5.weak (fun g hg hlt => by
          have h1 : ((w0.drewN (m + n2)).setCell ⟨b, 1, none⟩ (.int .i64 ((σ.next : Int) + 1))).heap.size ≤ g := hg
          have h2 := HZ2.out.lt
          omega)
        have hkA := kids_one (Z := fun g => w.heap.size ≤ g ∧ g ≠ w.heap.size) (k := k5) (num := num5) (nm := nm5) (c := c5) ⟨by omega, by omega⟩ hk5' 24
        have h6 := h5.alloc (.cells #[.int .u8 (k5 : Int), .int .i64 num5, .string ⟨nm5.toArray⟩, .slice A5 kids5.length c5] 24)
        have hF6 := hF5.alloc (.cells #[.int .u8 (k5 : Int), .int .i64 num5, .string ⟨nm5.toArray⟩, .slice A5 kids5.length c5] 24)
        have hz6 := hz5.alloc (.cells #[.int .u8 (k5 : Int), .int .i64 num5, .string ⟨nm5.toArray⟩, .slice A5 kids5.length c5] 24)
        obtain ⟨⟨r0, r1, r2, r3⟩, q0, q1, q2, q3⟩ := hz5.four
        have Q := Lib.hid (fun v0 v1 v2 v3 => H0.out.st4 hF6 h6 (Nat.le_refl _) v0 v1 v2 v3)
        have QF := Lib.hid (fun v0 v1 v2 v3 => hF6.st4 (Nat.le_refl _) v0 v1 v2 v3)
        have QB := Lib.hid (fun v0 v1 v2 v3 => hz6.st4 v0 v1 v2 v3)
        have QK := Lib.hid (fun v0 v1 v2 v3 => (hkA.keep ((Keep.refl _ _).st4 (g := w.heap.size) (by intro h; exact h.2 rfl) v0 v1 v2 v3)).weak (Z' := (w.heap.size ≤ ·)) (fun g hg _ => hg.1))
        have hpl3 : σ.next ≤ σ5.next := by
          have h9 : σ.next + 1 ≤ σ5.next := hn5
          omega
        have hcm := fun v0 v1 v2 v3 => st4_alloc w5 (.cells #[.int .u8 (k5 : Int), .int .i64 num5, .string ⟨nm5.toArray⟩, .slice A5 kids5.length c5] 24) w.heap.size v0 v1 v2 v3 hs5
        have HCM := Lib.hid hcm
        clear hk5 hk5' hr5 HH2 HF2 HG2 HZ2 hz5 c1 f1 h5 hf5 hF5 hkA h6 hF6 hz6 hcm
        go_wp2_with fail
        rw [← HCM.out]
        refine bodyPost_ret (node_result rfl rfl (QB.out _ _ _ _)) rfl ?_
        exact ⟨_, _, σ5, rfl, ⟨4, 0, [], _, 1, [.node k5 num5 nm5 kids5], rfl, rfl, QK.out _ _ _ _⟩, Q.out _ _ _ _, QF.out _ _ _ _, ⟨n5 + 1, HFIN.out n5 _ HR5.out⟩, hpl3⟩
    · have hsy := fun n => symbol_any 5 (w0.drewN n) (HG0.out.fr ((Fr.refl b w0).drewN n)).ops (by omega)
      have hse := fun n => sees_any ⟨#[33]⟩ (w0.drewN n) (HH0.out.drewN n)
      rw [show (⟨#[33]⟩ : ByteArray).data.toList = [33] from rfl] at hse
      cases hc : PP.sees E σ [33] with
      | false =>
        rw [hc] at hse
        have HSY := Lib.hid hsy
        have HSE := Lib.hid hse
        have HC := Lib.hid hc
        have HC1 := Lib.hid hs1
        clear hsy hse hc hs1
        go_wp2_with fail
        refine (HSY.out _).mono ?_
        rintro e w1 ⟨rfl, rfl⟩
        go_wp2_with fail
        refine (HSE.out _).mono ?_
        rintro e w2 ⟨rfl, n2, rfl⟩
        go_wp2_with fail
        go_roundw
        case rel => exact ⟨_, rfl, .inr (.inr ⟨rfl, HC1.out, HC.out⟩)⟩
        case measure => simp [intOf]
      | true =>
        rw [hc] at hse
        have hn1 := next_of_sees hc
        have hfin : ∀ n r, PP.unary E n (PP.adv σ) = some r → PP.unary E (n + 1) σ = some (r.1, .node 5 0 [] [r.2]) := by
          intro n r hr
          rw [PP.unary]; simp only [hs1, hc, hr]; rfl
        have HSY := Lib.hid hsy
        have HSE := Lib.hid hse
        have HFIN := Lib.hid hfin
        clear hsy hse hc hfin hs1
        obtain ⟨_, c1, _, _, _, _⟩ := HH0.out.cells
        have f1 := HH0.out.frozen 1
        go_wp2_with fail
        refine (HSY.out _).mono ?_
        rintro e w1 ⟨rfl, rfl⟩
        go_wp2_with fail
        refine (HSE.out _).mono ?_
        rintro e w2 ⟨rfl, n2, rfl⟩
        have h2 := (HH0.out.drewN (m + n2)).setNext (σ.next + 1) (by omega)
        have hF2 := (HF0.out.drewN (m + n2)).set 1 (.int .i64 ((σ.next : Int) + 1))
        have hz2 := (HZ.out.drewN (m + n2)).far (p := ⟨b, 1, none⟩) (by show w.heap.size ≠ b; omega) (.int .i64 ((σ.next : Int) + 1))
        have hg2 := HG0.out.fr ((Fr.refl b w0).drewN (m + n2) |>.set 1 (.int .i64 ((σ.next : Int) + 1)))
        have HH2 := Lib.hid h2
        have HF2 := Lib.hid hF2
        have HZ2 := Lib.hid hz2
        have HG2 := Lib.hid hg2
        clear h2 hF2 hz2 hg2
        go_wp2_with fail
        refine (HIU.out _ _ HG2.out HH2.out (by show σ.next < σ.next + 1; omega)).mono ?_
        rintro e w5 ⟨v5, t5, σ5, rfl, hN5, h5, hf5, ⟨n5, hr5⟩, hn5⟩
        obtain ⟨k5, num5, nm5, A5, c5, kids5, rfl, rfl, hk5⟩ := hN5
        have hF5 := HF2.out.trans hf5
        have hz5 := HZ2.out.fr hf5 (by omega)
        have hs5 := hz5.lt
        have HR5 := Lib.hid hr5
        have hk5' : KidsC w5 (fun g => w.heap.size ≤ g ∧ g ≠ w.heap.size) A5 kids5 := hk5.weak (fun g hg hlt => by
          have h1 : ((w0.drewN (m + n2)).setCell ⟨b, 1, none⟩ (.int .i64 ((σ.next : Int) + 1))).heap.size ≤ g := hg
          have h2 := HZ2.out.lt
          omega)
        have hkA := kids_one (Z := fun g => w.heap.size ≤ g ∧ g ≠ w.heap.size) (k := k5) (num := num5) (nm := nm5) (c := c5) ⟨by omega, by omega⟩ hk5' 24
        have h6 := h5.alloc (.cells #[.int .u8 (k5 : Int), .int .i64 num5, .string ⟨nm5.toArray⟩, .slice A5 kids5.length c5] 24)
        have hF6 := hF5.alloc (.cells #[.int .u8 (k5 : Int), .int .i64 num5, .string ⟨nm5.toArray⟩, .slice A5 kids5.length c5] 24)
        have hz6 := hz5.alloc (.cells #[.int .u8 (k5 : Int), .int .i64 num5, .string ⟨nm5.toArray⟩, .slice A5 kids5.length c5] 24)
        obtain ⟨⟨r0, r1, r2, r3⟩, q0, q1, q2, q3⟩ := hz5.four
        have Q := Lib.hid (fun v0 v1 v2 v3 => H0.out.st4 hF6 h6 (Nat.le_refl _) v0 v1 v2 v3)
        have QF := Lib.hid (fun v0 v1 v2 v3 => hF6.st4 (Nat.le_refl _) v0 v1 v2 v3)
        have QB := Lib.hid (fun v0 v1 v2 v3 => hz6.st4 v0 v1 v2 v3)
        have QK := Lib.hid (fun v0 v1 v2 v3 => (hkA.keep ((Keep.refl _ _).st4 (g := w.heap.size) (by intro h; exact h.2 rfl) v0 v1 v2 v3)).weak (Z' := (w.heap.size ≤ ·)) (fun g hg _ => hg.1))
        have hpl3 : σ.next ≤ σ5.next := by
          have h9 : σ.next + 1 ≤ σ5.next := hn5
          omega
        have hcm := fun v0 v1 v2 v3 => st4_alloc w5 (.cells #[.int .u8 (k5 : Int), .int .i64 num5, .string ⟨nm5.toArray⟩, .slice A5 kids5.length c5] 24) w.heap.size v0 v1 v2 v3 hs5
        have HCM := Lib.hid hcm
        clear hk5 hk5' hr5 HH2 HF2 HG2 HZ2 hz5 c1 f1 h5 hf5 hF5 hkA h6 hF6 hz6 hcm
        go_wp2_with fail
        rw [← HCM.out]
        refine bodyPost_ret (node_result rfl rfl (QB.out _ _ _ _)) rfl ?_
        exact ⟨_, _, σ5, rfl, ⟨5, 0, [], _, 1, [.node k5 num5 nm5 kids5], rfl, rfl, QK.out _ _ _ _⟩, Q.out _ _ _ _, QF.out _ _ _ _, ⟨n5 + 1, HFIN.out n5 _ HR5.out⟩, hpl3⟩
    · have hfin : ∀ n r, PP.primary E n σ = some r → PP.unary E (n + 1) σ = some r := by
        intro n r hr
        rw [PP.unary]; simp only [hs1, hs2, hr]; rfl
      have HFIN := Lib.hid hfin
      clear hfin hs1 hs2
      go_wp2_with fail
      refine (HPR.out _ (HG0.out.fr ((Fr.refl b w0).drewN m)) (HH0.out.drewN m)).mono ?_
      rintro e w5 ⟨v5, t5, σ5, rfl, hN5, h5, hf5, ⟨n5, hr5⟩, hn5⟩
      obtain ⟨k5, num5, nm5, A5, c5, kids5, rfl, rfl, hk5⟩ := hN5
      have hF5 := (HF0.out.drewN m).trans hf5
      have hz5 := (HZ.out.drewN m).fr hf5 (by omega)
      have hk5' : KidsC w5 (fun g => w.heap.size ≤ g ∧ g ≠ w.heap.size) A5 kids5 := hk5.weak (fun g hg hlt => by
        have h1 : (w0.drewN m).heap.size ≤ g := hg
        have h2 := (HZ.out.drewN m).lt
        omega)
      have HR5 := Lib.hid hr5
      obtain ⟨⟨r0, r1, r2, r3⟩, q0, q1, q2, q3⟩ := hz5.four
      have Q := Lib.hid (fun v0 v1 v2 v3 => H0.out.st4 hF5 h5 (Nat.le_refl _) v0 v1 v2 v3)
      have QF := Lib.hid (fun v0 v1 v2 v3 => hF5.st4 (Nat.le_refl _) v0 v1 v2 v3)
      have QB := Lib.hid (fun v0 v1 v2 v3 => hz5.st4 v0 v1 v2 v3)
      have QK := Lib.hid (fun v0 v1 v2 v3 => (hk5'.keep ((Keep.refl _ _).st4 (g := w.heap.size) (by intro h; exact h.2 rfl) v0 v1 v2 v3)).weak (Z' := (w.heap.size ≤ ·)) (fun g hg _ => hg.1))
      clear hk5 hk5' hr5 hz5 h5 hf5 hF5
      go_wp2_with fail
      refine bodyPost_ret (node_result rfl rfl (QB.out _ _ _ _)) rfl ?_
      exact ⟨_, _, σ5, rfl, ⟨k5, num5, nm5, _, c5, kids5, rfl, rfl, QK.out _ _ _ _⟩, Q.out _ _ _ _, QF.out _ _ _ _, ⟨n5 + 1, HFIN.out n5 _ HR5.out⟩, hn5⟩
end
end Go.Proofs.YtaaaicpjlaeiiaaDoor
