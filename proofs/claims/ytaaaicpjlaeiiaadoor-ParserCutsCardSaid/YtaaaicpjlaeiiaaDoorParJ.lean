/- The contract of the parser's expression; the five readers of expressions tied. -/
import Derived.Test.YtaaaicpjlaeiiaaDoorParI
namespace Go.Proofs.YtaaaicpjlaeiiaaDoor
open Go.RowKit Go.Maps
open PP (Tree)

section
set_option maxHeartbeats 1000000
set_option maxRecDepth 100000
variable {b : Nat} {X : Loc} {E : PP.Env} {σ : PP.St}
theorem expression_of (w : World) (hg : Gx w b X) (h : PS w b X E σ)
    (HB : ∀ w', Gx w' b X → PS w' b X E σ → Calls Tryd.prog 94 #[.pointer (some ⟨b, 0, none⟩), .int .i64 0] w' (TreeEnd b X E σ w' fun σ'' t => ∃ n, PP.binary E n 0 σ = some (σ'', t))) :
    Calls Tryd.prog 61 #[.pointer (some ⟨b, 0, none⟩)] w (TreeEnd b X E σ w fun σ' t => ∃ n, PP.binary E n 0 σ = some (σ', t)) := by
  have hbl := h.lt
  have hz := Blk.new w 24 #[.int .u8 0, .int .i64 0, .string ⟨#[]⟩, .slice none 0 0]
  have h0 := h.alloc (.cells #[.int .u8 0, .int .i64 0, .string ⟨#[]⟩, .slice none 0 0] 24)
  have hf0 := (Fr.refl b w).alloc (.cells #[.int .u8 0, .int .i64 0, .string ⟨#[]⟩, .slice none 0 0] 24)
  have hg0 := hg.fr hf0
  have hb0 := HB _ hg0 h0
  obtain ⟨w0, hW⟩ : ∃ w0, w.alloc (.cells #[.int .u8 0, .int .i64 0, .string ⟨#[]⟩, .slice none 0 0] 24) = w0 := ⟨_, rfl⟩
  rw [hW] at hz h0 hf0 hg0 hb0
  have HW := Lib.hid hW
  have H0 := Lib.hid h
  have HF0 := Lib.hid hf0
  have HZ := Lib.hid hz
  have HB0 := Lib.hid hb0
  clear hW h hg h0 hf0 hg0 hz HB hb0
  go_enter Tryd.func61, Tryd.ntmps61
  go_wp2_with fail
  rw [HW.out]
  refine HB0.out.mono ?_
  rintro e w1 ⟨v1, t1, σ1, rfl, hN1, h1, hf1, hr1, hn1⟩
  obtain ⟨k1, num1, nm1, A1, c1, kids1, rfl, rfl, hk1⟩ := hN1
  have hF1 := HF0.out.trans hf1
  have hz1 := HZ.out.fr hf1 (by omega)
  have hk1' : KidsC w1 (fun g => w.heap.size ≤ g ∧ g ≠ w.heap.size) A1 kids1 := hk1.weak (fun g hg hlt => by
    have h1 : w0.heap.size ≤ g := hg
    have h2 := HZ.out.lt
    omega)
  obtain ⟨⟨r0, r1, r2, r3⟩, q0, q1, q2, q3⟩ := hz1.four
  have Q := Lib.hid (fun v0 v1 v2 v3 => H0.out.st4 hF1 h1 (Nat.le_refl _) v0 v1 v2 v3)
  have QF := Lib.hid (fun v0 v1 v2 v3 => hF1.st4 (Nat.le_refl _) v0 v1 v2 v3)
  have QB := Lib.hid (fun v0 v1 v2 v3 => hz1.st4 v0 v1 v2 v3)
  have QK := Lib.hid (fun v0 v1 v2 v3 => (hk1'.keep ((Keep.refl _ _).st4 (g := w.heap.size) (by intro h; exact h.2 rfl) v0 v1 v2 v3)).weak (Z' := (w.heap.size ≤ ·)) (fun g hg _ => hg.1))
  have HR := Lib.hid hr1
  clear hk1 hk1' hz1 hF1 hf1 h1 hr1
  go_wp2_with fail
  refine bodyPost_ret (node_result rfl rfl (QB.out _ _ _ _)) rfl ?_
  exact ⟨_, _, σ1, rfl, ⟨k1, num1, nm1, _, c1, kids1, rfl, rfl, QK.out _ _ _ _⟩, Q.out _ _ _ _, QF.out _ _ _ _, HR.out, hn1⟩
end

section
variable {b : Nat} {X : Loc} {E : PP.Env}
theorem exprs_upto (d : Nat) : ∀ (σ : PP.St) (w : World), Gx w b X → PS w b X E σ → E.ts.length - σ.next ≤ d →
    (Calls Tryd.prog 122 #[.pointer (some ⟨b, 0, none⟩)] w (TreeEnd b X E σ w fun σ' t => ∃ n, PP.unary E n σ = some (σ', t))) ∧
    (∀ l : Nat, Calls Tryd.prog 94 #[.pointer (some ⟨b, 0, none⟩), .int .i64 (l : Int)] w (TreeEnd b X E σ w fun σ' t => ∃ n, PP.binary E n l σ = some (σ', t))) ∧
    Calls Tryd.prog 61 #[.pointer (some ⟨b, 0, none⟩)] w (TreeEnd b X E σ w fun σ' t => ∃ n, PP.binary E n 0 σ = some (σ', t)) := by
  induction d using Nat.strongRecOn with
  | ind d ih =>
    intro σ w hg h hd
    have lift : ∀ (σ' : PP.St) (w' : World), PS w' b X E σ' → σ.next < σ'.next → E.ts.length - σ'.next < d ∧ E.ts.length - σ'.next ≤ E.ts.length - σ'.next := by
      intro σ' w' h' hn
      have := h'.next
      exact ⟨by omega, Nat.le_refl _⟩
    have IH : ∀ σ' w', Gx w' b X → PS w' b X E σ' → σ.next < σ'.next → Calls Tryd.prog 61 #[.pointer (some ⟨b, 0, none⟩)] w' (TreeEnd b X E σ' w' fun σ'' t => ∃ n, PP.binary E n 0 σ' = some (σ'', t)) :=
      fun σ' w' g' h' hn => (ih _ (lift σ' w' h' hn).1 σ' w' g' h' (Nat.le_refl _)).2.2
    have HU : ∀ w', Gx w' b X → PS w' b X E σ → Calls Tryd.prog 122 #[.pointer (some ⟨b, 0, none⟩)] w' (TreeEnd b X E σ w' fun σ'' t => ∃ n, PP.unary E n σ = some (σ'', t)) :=
      fun w' g' h' => unary_any w' g' h' IH (fun σ' w' g' h' hn => (ih _ (lift σ' w' h' hn).1 σ' w' g' h' (Nat.le_refl _)).1)
    have HB : ∀ w' (l : Nat), Gx w' b X → PS w' b X E σ → Calls Tryd.prog 94 #[.pointer (some ⟨b, 0, none⟩), .int .i64 (l : Int)] w' (TreeEnd b X E σ w' fun σ'' t => ∃ n, PP.binary E n l σ = some (σ'', t)) :=
      fun w' l g' h' => binary_any l w' g' h' HU (fun σ' w' l' g' h' hn => (ih _ (lift σ' w' h' hn).1 σ' w' g' h' (Nat.le_refl _)).2.1 l')
    exact ⟨HU w hg h, fun l => HB w l hg h, expression_of w hg h (fun w' g' h' => HB w' 0 g' h')⟩
theorem expression_any (σ : PP.St) (w : World) (hg : Gx w b X) (h : PS w b X E σ) :
    Calls Tryd.prog 61 #[.pointer (some ⟨b, 0, none⟩)] w (TreeEnd b X E σ w fun σ' t => ∃ n, PP.binary E n 0 σ = some (σ', t)) := (exprs_upto _ σ w hg h (Nat.le_refl _)).2.2
theorem place_all (σ : PP.St) (w : World) (hg : Gx w b X) (h : PS w b X E σ) :
    Calls Tryd.prog 144 #[.pointer (some ⟨b, 0, none⟩)] w (TreeEnd b X E σ w fun σ' t => ∃ n, PP.place E n σ = some (σ', t)) := place_any w hg h (fun σ' w' g' h' _ => expression_any σ' w' g' h')
end
end Go.Proofs.YtaaaicpjlaeiiaaDoor
