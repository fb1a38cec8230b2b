/- The contract of the printer's expression, for every valid expression. -/
import Derived.Test.YtkeehpgnljieeaaDoorPrB
namespace Go.Proofs.YtkeehpgnljieeaaDoor
open Go.RowKit
open PP (Tree)
/-- A child in memory. -/
structure KidAt (w : World) (B : Nat) (g o : Nat) (k : Nat) (num : Int) (nm : List UInt8) (A : Option Addr) (c : Nat) (kids : List Tree) : Prop where
  lt : g < B
  c0 : w.cell? ⟨g, o, none⟩ = some (.int .u8 (k : Int))
  c1 : w.cell? ⟨g, o + 1, none⟩ = some (.int .i64 num)
  c2 : w.cell? ⟨g, o + 2, none⟩ = some (.string ⟨nm.toArray⟩)
  c3 : w.cell? ⟨g, o + 3, none⟩ = some (.slice A kids.length c)
  ks : KidsC w (· < B) A kids
theorem KidAt.below {w w' : World} {B g o k : Nat} {num : Int} {nm : List UInt8} {A : Option Addr} {c : Nat} {kids : List Tree} (h : KidAt w B g o k num nm A c kids) (hb : Below B w w') : KidAt w' B g o k num nm A c kids :=
  ⟨h.lt, (hb.cell (p := ⟨g, o, none⟩) h.lt).trans h.c0, (hb.cell (p := ⟨g, o + 1, none⟩) h.lt).trans h.c1, (hb.cell (p := ⟨g, o + 2, none⟩) h.lt).trans h.c2, (hb.cell (p := ⟨g, o + 3, none⟩) h.lt).trans h.c3, h.ks.keep ⟨hb.size, fun _ hg _ => hb.block _ hg⟩⟩
theorem KidAt.ndrew {w : World} {B g o k : Nat} {num : Int} {nm : List UInt8} {A : Option Addr} {c : Nat} {kids : List Tree} (h : KidAt w B g o k num nm A c kids) : KidAt w.drew B g o k num nm A c kids := h.below (Below.refl _ _).drew
theorem KidsC.one {w : World} {B : Nat} {A : Option Addr} {a : Tree} (h : KidsC w (· < B) A [a]) : ∃ g o k num nm A1 c1 ks, A = some ⟨g, o, none⟩ ∧ a = .node k num nm ks ∧ KidAt w B g o k num nm A1 c1 ks := by
  obtain ⟨g, o, rfl, hz, _, hat⟩ := h.at_ (by simp)
  obtain ⟨k, num, nm, A1, c1, ks, rfl, ⟨x0, x1, x2, x3⟩, hk⟩ := hat 0 a rfl
  simp only [Nat.zero_mul, Nat.add_zero] at x0 x1 x2 x3
  exact ⟨g, o, k, num, nm, A1, c1, ks, rfl, rfl, hz, x0, x1, x2, x3, hk⟩
theorem KidsC.two {w : World} {B : Nat} {A : Option Addr} {a b : Tree} (h : KidsC w (· < B) A [a, b]) : ∃ g o k num nm A1 c1 ks k' num' nm' A1' c1' ks', A = some ⟨g, o, none⟩ ∧ a = .node k num nm ks ∧ KidAt w B g o k num nm A1 c1 ks ∧ b = .node k' num' nm' ks' ∧ KidAt w B g (o + 4) k' num' nm' A1' c1' ks' := by
  obtain ⟨g, o, rfl, hz, _, hat⟩ := h.at_ (by simp)
  obtain ⟨k, num, nm, A1, c1, ks, rfl, ⟨x0, x1, x2, x3⟩, hk⟩ := hat 0 a rfl
  obtain ⟨k', num', nm', A1', c1', ks', rfl, ⟨y0, y1, y2, y3⟩, hk'⟩ := hat 1 b rfl
  simp only [Nat.zero_mul, Nat.add_zero, Nat.one_mul] at x0 x1 x2 x3 y0 y1 y2 y3
  exact ⟨g, o, k, num, nm, A1, c1, ks, k', num', nm', A1', c1', ks', rfl, rfl, ⟨hz, x0, x1, x2, x3, hk⟩, rfl, ⟨hz, y0, y1, y2, y3, hk'⟩⟩
theorem KidsC.three {w : World} {B : Nat} {A : Option Addr} {a b d : Tree} (h : KidsC w (· < B) A [a, b, d]) : ∃ g o k num nm A1 c1 ks k' num' nm' A1' c1' ks' k'' num'' nm'' A1'' c1'' ks'', A = some ⟨g, o, none⟩ ∧ a = .node k num nm ks ∧ KidAt w B g o k num nm A1 c1 ks ∧ b = .node k' num' nm' ks' ∧ KidAt w B g (o + 4) k' num' nm' A1' c1' ks' ∧ d = .node k'' num'' nm'' ks'' ∧ KidAt w B g (o + 8) k'' num'' nm'' A1'' c1'' ks'' := by
  obtain ⟨g, o, rfl, hz, _, hat⟩ := h.at_ (by simp)
  obtain ⟨k, num, nm, A1, c1, ks, rfl, ⟨x0, x1, x2, x3⟩, hk⟩ := hat 0 a rfl
  obtain ⟨k', num', nm', A1', c1', ks', rfl, ⟨y0, y1, y2, y3⟩, hk'⟩ := hat 1 b rfl
  obtain ⟨k'', num'', nm'', A1'', c1'', ks'', rfl, ⟨z0, z1, z2, z3⟩, hk''⟩ := hat 2 d rfl
  simp only [Nat.zero_mul, Nat.add_zero, Nat.one_mul] at x0 x1 x2 x3 y0 y1 y2 y3
  exact ⟨g, o, k, num, nm, A1, c1, ks, k', num', nm', A1', c1', ks', k'', num'', nm'', A1'', c1'', ks'', rfl, rfl, ⟨hz, x0, x1, x2, x3, hk⟩, rfl, ⟨hz, y0, y1, y2, y3, hk'⟩, rfl, ⟨hz, z0, z1, z2, z3, hk''⟩⟩
section
variable {B b : Nat}
set_option maxHeartbeats 2000000
set_option maxRecDepth 100000
theorem expr_num {num : Int} (h0 : 0 ≤ num) (h1 : num ≤ 2147483647) : ExprOk B b (.node 1 num [] []) := by
  intro w0 W bs i bl k num' nm A c kids ht hk h hl
  injection ht with e1 e2 e3 e4
  subst e1 e2 e3 e4
  have hP : PP.prE (.node 1 num [] []) = PP.dec num.toNat := by simp [PP.prE]
  rw [hP] at hl ⊢
  clear hP hk
  have hi := h.alloc #[.int .u8 1, .int .i64 num, .string ⟨#[]⟩, .slice A 0 c] 24 (by decide) rfl
  clear h
  go_enter Tryd.func22, Tryd.ntmps22
  go_wp2_with fail
  generalize W.alloc (.cells #[.int .u8 1, .int .i64 num, .string ⟨#[]⟩, .slice A 0 c] 24) = w6 at *
  have hd := hi.drew
  have HI := Lib.hid (itoa_any num h0 h1 w6.drew hd.pow')
  have X := Lib.hid hi.b0.four.1.2.1
  have Xd := Lib.hid hd.b0.four.1.2.1
  have HD := Lib.hid hd
  clear hi hd
  go_region_held3 (fun V => V.cell? ⟨W.heap.size, 1, none⟩ = some (.int .i64 num))
    (with_reducible first | exact X.out | exact Xd.out | exact (HD.out.below hb7).b0.four.1.2.1 | exact hp8.b0.four.1.2.1)
    (first | (go_at_call 32; (with_reducible refine HI.out.mono ?_); rintro e w7 ⟨rfl, hb7⟩) | (go_at_call 33; (with_reducible refine (wStr _ (HD.out.below hb7) hl).mono ?_); rintro e w8 ⟨⟨v, rfl⟩, hp8⟩))
  go_wp2_with fail
  go_end0
  exact ⟨rfl, hp8.drop⟩
theorem expr_var {nm : List UInt8} : ExprOk B b (.node 2 0 nm []) := by
  intro w0 W bs i bl k num' nm A c kids ht hk h hl
  injection ht with e1 e2 e3 e4
  subst e1 e2 e3 e4
  have hP : PP.prE (.node 2 0 nm []) = nm := by simp [PP.prE]
  rw [hP] at hl ⊢
  clear hP hk
  have hi := h.alloc #[.int .u8 2, .int .i64 0, .string ⟨nm.toArray⟩, .slice A 0 c] 24 (by decide) rfl
  clear h
  go_enter Tryd.func22, Tryd.ntmps22
  go_wp2_with fail
  generalize W.alloc (.cells #[.int .u8 2, .int .i64 0, .string ⟨nm.toArray⟩, .slice A 0 c] 24) = w6 at *
  have X := Lib.hid hi.b0.four.1.2.2.1
  have Xd := Lib.hid hi.drew.b0.four.1.2.2.1
  have HC := Lib.hid (wStr nm hi.drew hl)
  clear hi
  go_region_held3 (fun V => V.cell? ⟨W.heap.size, 2, none⟩ = some (.string ⟨nm.toArray⟩))
    (with_reducible first | exact X.out | exact Xd.out | exact hp8.b0.four.1.2.2.1)
    (first | (go_at_call 33; (with_reducible refine HC.out.mono ?_); rintro e w8 ⟨⟨v, rfl⟩, hp8⟩))
  go_wp2_with fail
  go_end0
  exact ⟨rfl, hp8.drop⟩
theorem expr_item {nm : List UInt8} {a : Tree} (hE : ExprOk B b a) : ExprOk B b (.node 3 0 nm [a]) := by
  intro w0 W bs i bl k num' nm A c kids ht hk h hl
  injection ht with e1 e2 e3 e4
  subst e1 e2 e3 e4
  have hP : PP.prE (.node 3 0 nm [a]) = nm ++ [91] ++ PP.prE a ++ [93] := by simp [PP.prE]
  rw [hP] at hl ⊢
  simp only [List.length_append, List.length_cons, List.length_nil] at hl
  obtain ⟨g, o, k1, num1, nm1, A1, c1, ks1, rfl, ha, K⟩ := hk.one
  have HE := Lib.hid hE
  have HK := Lib.hid K
  have HA := Lib.hid ha
  have hi := h.alloc #[.int .u8 3, .int .i64 0, .string ⟨nm.toArray⟩, .slice (some ⟨g, o, none⟩) 1 c] 24 (by decide) rfl
  clear hP hk hE K ha h
  go_enter Tryd.func22, Tryd.ntmps22
  go_wp2_with fail
  generalize W.alloc (.cells #[.int .u8 3, .int .i64 0, .string ⟨nm.toArray⟩, .slice (some ⟨g, o, none⟩) 1 c] 24) = w6 at *
  have X := Lib.hid hi.b0.four.1.2.2.1
  have Xd := Lib.hid hi.drew.b0.four.1.2.2.1
  have HC := Lib.hid (wStr nm hi.drew (by omega))
  clear hi
  go_region_held3 (fun V => V.cell? ⟨W.heap.size, 2, none⟩ = some (.string ⟨nm.toArray⟩))
    (with_reducible first | exact X.out | exact Xd.out | exact hp8.b0.four.1.2.2.1)
    (first | (go_at_call 33; (with_reducible refine HC.out.mono ?_); rintro e w8 ⟨⟨v, rfl⟩, hp8⟩))
  have HC9 := Lib.hid (wByte 91 91 rfl hp8 (by simp only [List.length_append]; omega))
  clear hp8
  go_wp2_with fail
  refine HC9.out.mono ?_
  rintro e w9 ⟨rfl, hp9⟩
  have x3 := hp9.b0.four.1.2.2.2
  have hlt := hp9.b0.lt
  have K9 := HK.out.below hp9.be
  have y0 := K9.c0
  have y1 := K9.c1
  have y2 := K9.c2
  have y3 := K9.c3
  have hg : g < w9.heap.size := Nat.lt_of_lt_of_le K9.lt hp9.size
  have HC10 := Lib.hid (HE.out _ _ _ _ _ _ _ _ _ c1 _ HA.out HK.out.ks hp9 (by simp only [List.length_append, List.length_cons, List.length_nil]; omega))
  clear hp9 K9
  go_wp2_with fail
  refine HC10.out.mono ?_
  rintro e w10 ⟨rfl, hp10⟩
  have HC11 := Lib.hid (wByte 93 93 rfl hp10 (by simp only [List.length_append, List.length_cons, List.length_nil]; omega))
  clear hp10 x3 hlt y0 y1 y2 y3 hg
  go_wp2_with fail
  refine HC11.out.mono ?_
  rintro e w11 ⟨rfl, hp11⟩
  have HP := Lib.hid hp11
  clear hp11
  go_wp2_with fail
  go_end0
  exact ⟨rfl, by have := HP.out.drop; simpa using this⟩
theorem expr_neg {a : Tree} (hE : ExprOk B b a) (hka : a.kind ≤ 255) : ExprOk B b (.node 4 0 [] [a]) := by
  intro w0 W bs i bl k num' nm A c kids ht hk h hl
  injection ht with e1 e2 e3 e4
  subst e1 e2 e3 e4
  have hP : PP.prE (.node 4 0 [] [a]) = PP.symbol 4 ++ PP.wrapP (PP.bin a.kind) (PP.prE a) := by simp [PP.prE]
  rw [hP] at hl ⊢
  have hs1 : (PP.symbol 4).length = 1 := rfl
  rw [List.length_append, hs1] at hl
  obtain ⟨g, o, k1, num1, nm1, A1, c1, ks1, rfl, rfl, K⟩ := hk.one
  change bs.length + (1 + (PP.wrapP (PP.bin k1) (PP.prE (.node k1 num1 nm1 ks1))).length) ≤ _ at hl
  have HE := Lib.hid hE
  have HK := Lib.hid K
  have K8lt := K.lt
  have hi := h.alloc #[.int .u8 4, .int .i64 0, .string ⟨#[]⟩, .slice (some ⟨g, o, none⟩) 1 c] 24 (by decide) rfl
  clear hP hk hE K h
  go_enter Tryd.func22, Tryd.ntmps22
  go_wp2_with fail
  generalize W.alloc (.cells #[.int .u8 4, .int .i64 0, .string ⟨#[]⟩, .slice (some ⟨g, o, none⟩) 1 c] 24) = w6 at *
  have X := Lib.hid hi.b0.four.1.1
  have Xd := Lib.hid hi.drew.b0.four.1.1
  have HS := Lib.hid (symbol_any 4 w6.drew hi.drew.ops' (by decide))
  have HC := Lib.hid (wStr (PP.symbol 4) hi.drew (by omega))
  clear hi
  go_region_held3 (fun V => V.cell? ⟨W.heap.size, 0, none⟩ = some (.int .u8 4))
    (with_reducible first | exact X.out | exact Xd.out | exact hp8.b0.four.1.1)
    (first | (go_at_call 35; refine HS.out.mono ?_; rintro e w7 ⟨rfl, rfl⟩) | (go_at_call 33; (with_reducible refine HC.out.mono ?_); rintro e w8 ⟨⟨v, rfl⟩, hp8⟩))
  have HK8 := Lib.hid (HK.out.below hp8.be)
  have HK8d := Lib.hid (HK.out.below hp8.drew.be)
  have X8 := Lib.hid hp8.b0.four.1.2.2.2
  have X8d := Lib.hid hp8.drew.b0.four.1.2.2.2
  have hlt := hp8.b0.lt
  have hg : g < w8.heap.size := Nat.lt_of_lt_of_le K8lt hp8.size
  have HBI := Lib.hid (printer_binary k1 w8.drew hka)
  have HO := Lib.hid (operand_of (c := c1) HE.out (PP.bin k1) rfl HK.out.ks hp8.drew (by rw [List.length_append, hs1]; omega))
  clear hp8
  go_wp2_with fail
  go_region_held3 (fun V => V.cell? ⟨W.heap.size, 3, none⟩ = some (.slice (some ⟨g, o, none⟩) 1 c) ∧ V.cell? ⟨g, o, none⟩ = some (.int .u8 (k1 : Int)) ∧ V.cell? ⟨g, o + 1, none⟩ = some (.int .i64 num1) ∧ V.cell? ⟨g, o + 2, none⟩ = some (.string ⟨nm1.toArray⟩) ∧ V.cell? ⟨g, o + 3, none⟩ = some (.slice A1 ks1.length c1))
    (with_reducible first | exact ⟨X8.out, HK8.out.c0, HK8.out.c1, HK8.out.c2, HK8.out.c3⟩ | exact ⟨X8d.out, HK8d.out.c0, HK8d.out.c1, HK8d.out.c2, HK8d.out.c3⟩ | exact ⟨hp9.b0.four.1.2.2.2, (HK.out.below hp9.be).c0, (HK.out.below hp9.be).c1, (HK.out.below hp9.be).c2, (HK.out.below hp9.be).c3⟩)
    (first | (go_at_call 37; refine HBI.out.mono ?_; rintro e w7 ⟨rfl, rfl⟩) | (go_at_call 36; (with_reducible refine HO.out.mono ?_); rintro e w9 ⟨rfl, hp9⟩))
  go_wp2_with fail
  go_end0
  exact ⟨rfl, by have := hp9.drop; rw [List.append_assoc] at this; exact this⟩
theorem expr_not {a : Tree} (hE : ExprOk B b a) (hka : a.kind ≤ 255) : ExprOk B b (.node 5 0 [] [a]) := by
  intro w0 W bs i bl k num' nm A c kids ht hk h hl
  injection ht with e1 e2 e3 e4
  subst e1 e2 e3 e4
  have hP : PP.prE (.node 5 0 [] [a]) = PP.symbol 5 ++ PP.wrapP (PP.bin a.kind) (PP.prE a) := by simp [PP.prE]
  rw [hP] at hl ⊢
  have hs1 : (PP.symbol 5).length = 1 := rfl
  rw [List.length_append, hs1] at hl
  obtain ⟨g, o, k1, num1, nm1, A1, c1, ks1, rfl, rfl, K⟩ := hk.one
  change bs.length + (1 + (PP.wrapP (PP.bin k1) (PP.prE (.node k1 num1 nm1 ks1))).length) ≤ _ at hl
  have HE := Lib.hid hE
  have HK := Lib.hid K
  have K8lt := K.lt
  have hi := h.alloc #[.int .u8 5, .int .i64 0, .string ⟨#[]⟩, .slice (some ⟨g, o, none⟩) 1 c] 24 (by decide) rfl
  clear hP hk hE K h
  go_enter Tryd.func22, Tryd.ntmps22
  go_wp2_with fail
  generalize W.alloc (.cells #[.int .u8 5, .int .i64 0, .string ⟨#[]⟩, .slice (some ⟨g, o, none⟩) 1 c] 24) = w6 at *
  have X := Lib.hid hi.b0.four.1.1
  have Xd := Lib.hid hi.drew.b0.four.1.1
  have HS := Lib.hid (symbol_any 5 w6.drew hi.drew.ops' (by decide))
  have HC := Lib.hid (wStr (PP.symbol 5) hi.drew (by omega))
  clear hi
  go_region_held3 (fun V => V.cell? ⟨W.heap.size, 0, none⟩ = some (.int .u8 5))
    (with_reducible first | exact X.out | exact Xd.out | exact hp8.b0.four.1.1)
    (first | (go_at_call 35; refine HS.out.mono ?_; rintro e w7 ⟨rfl, rfl⟩) | (go_at_call 33; (with_reducible refine HC.out.mono ?_); rintro e w8 ⟨⟨v, rfl⟩, hp8⟩))
  have HK8 := Lib.hid (HK.out.below hp8.be)
  have HK8d := Lib.hid (HK.out.below hp8.drew.be)
  have X8 := Lib.hid hp8.b0.four.1.2.2.2
  have X8d := Lib.hid hp8.drew.b0.four.1.2.2.2
  have hlt := hp8.b0.lt
  have hg : g < w8.heap.size := Nat.lt_of_lt_of_le K8lt hp8.size
  have HBI := Lib.hid (printer_binary k1 w8.drew hka)
  have HO := Lib.hid (operand_of (c := c1) HE.out (PP.bin k1) rfl HK.out.ks hp8.drew (by rw [List.length_append, hs1]; omega))
  clear hp8
  go_wp2_with fail
  go_region_held3 (fun V => V.cell? ⟨W.heap.size, 3, none⟩ = some (.slice (some ⟨g, o, none⟩) 1 c) ∧ V.cell? ⟨g, o, none⟩ = some (.int .u8 (k1 : Int)) ∧ V.cell? ⟨g, o + 1, none⟩ = some (.int .i64 num1) ∧ V.cell? ⟨g, o + 2, none⟩ = some (.string ⟨nm1.toArray⟩) ∧ V.cell? ⟨g, o + 3, none⟩ = some (.slice A1 ks1.length c1))
    (with_reducible first | exact ⟨X8.out, HK8.out.c0, HK8.out.c1, HK8.out.c2, HK8.out.c3⟩ | exact ⟨X8d.out, HK8d.out.c0, HK8d.out.c1, HK8d.out.c2, HK8d.out.c3⟩ | exact ⟨hp9.b0.four.1.2.2.2, (HK.out.below hp9.be).c0, (HK.out.below hp9.be).c1, (HK.out.below hp9.be).c2, (HK.out.below hp9.be).c3⟩)
    (first | (go_at_call 37; refine HBI.out.mono ?_; rintro e w7 ⟨rfl, rfl⟩) | (go_at_call 36; (with_reducible refine HO.out.mono ?_); rintro e w9 ⟨rfl, hp9⟩))
  go_wp2_with fail
  go_end0
  exact ⟨rfl, by have := hp9.drop; rw [List.append_assoc] at this; exact this⟩
end
end Go.Proofs.YtkeehpgnljieeaaDoor
