/- The contracts of the parser's primary and unary, from those of its expression. -/
import Derived.Test.YtaaaicpjlaeiiaaDoorParF
namespace Go.Proofs.YtaaaicpjlaeiiaaDoor
open Go.RowKit Go.Maps
open PP (Tree)

section
set_option maxHeartbeats 800000
set_option maxRecDepth 100000
variable {b : Nat} {X : Loc} {E : PP.Env} {σ : PP.St}
theorem next_of_sees {E : PP.Env} {σ : PP.St} {t : List UInt8} (hs : PP.sees E σ t = true) : σ.next < E.ts.length := by
  unfold PP.sees at hs
  rcases PP.more_cases E σ with ⟨_, _, h3⟩ | ⟨h1, _⟩ | ⟨h1, _, _⟩
  · exact h3
  · rw [h1] at hs; cases hs
  · rw [h1] at hs; cases hs
/-- A quiet contract behind draws, in a region that has drawn. -/
theorem quiet_at {P : Program} {f : FuncId} {args : Array Value} {w : World} {v : Value} (k : Nat) {n : Nat}
    (h : Calls P f args (w.drewN (k + n)) fun e w' => e = .returned v ∧ ∃ m, w' = (w.drewN (k + n)).drewN m) : Calls P f args (w.drewN (k + n)) fun e w'' => e = .returned v ∧ ∃ m, w'' = w.drewN (k + m) :=
  h.mono fun _ _ ⟨he, m, hm⟩ => ⟨he, n + m, by rw [hm, World.drewN_drewN, Nat.add_assoc]⟩
theorem next_fail (σ : PP.St) (o e : Nat) : (PP.fail σ o e).next = σ.next := by unfold PP.fail; split <;> rfl
theorem next_numP (E : PP.Env) (σ : PP.St) (l h : Int) : σ.next ≤ (PP.numP E σ l h).1.next := by
  unfold PP.numP; split
  · simp only []; split
    · rw [next_fail]; exact Nat.le_refl _
    · simp [PP.adv]
  · rw [next_reject]; exact Nat.le_refl _
/-- The state's bound on numbers that are read. -/
theorem primary_any (w : World) (hg : Gx w b X) (h : PS w b X E σ)
    (IH : ∀ σ' w', Gx w' b X → PS w' b X E σ' → σ.next < σ'.next → Calls Tryd.prog 61 #[.pointer (some ⟨b, 0, none⟩)] w' (TreeEnd b X E σ' w' fun σ'' t => ∃ n, PP.binary E n 0 σ' = some (σ'', t))) :
    Calls Tryd.prog 136 #[.pointer (some ⟨b, 0, none⟩)] w (TreeEnd b X E σ w fun σ' t => ∃ n, PP.primary E n σ = some (σ', t)) := by
  have hbl := h.lt
  have hlen := h.len
  have HI := Lib.hid IH
  have HPL := Lib.hid (fun w' (hg' : Gx w' b X) (h' : PS w' b X E σ) => place_any w' hg' h' IH)
  clear IH
  obtain ⟨Z0, hZ0⟩ : ∃ o : Obj, o = .cells #[.int .u8 0, .int .i64 0, .string ⟨#[]⟩, .slice none 0 0] 24 := ⟨_, rfl⟩
  have hz : Blk (w.alloc Z0) w.heap.size 24 #[.int .u8 0, .int .i64 0, .string ⟨#[]⟩, .slice none 0 0] := by rw [hZ0]; exact Blk.new _ _ _
  have h0 := h.alloc Z0
  have hf0 := (Fr.refl b w).alloc Z0
  have hg0 := hg.fr hf0
  have hs := sees_any ⟨#[40]⟩ _ h0
  rw [show (⟨#[40]⟩ : ByteArray).data.toList = [40] from rfl] at hs
  have hmo := fun n => more_any _ (h0.drewN n)
  subst hZ0
  generalize hW : w.alloc (.cells #[.int .u8 0, .int .i64 0, .string ⟨#[]⟩, .slice none 0 0] 24) = w0 at *
  have HW := Lib.hid hW
  have H0 := Lib.hid h
  clear hW h hg
  cases hse : PP.sees E σ [40] with
  | true =>
    rw [hse] at hs
    have hn1 := next_of_sees hse
    have hfin : ∀ n r, PP.binary E n 0 (PP.adv σ) = some r → PP.primary E (n + 1) σ = some (PP.require E r.1 [41], r.2) := by
      intro n r hr
      rw [PP.primary]; simp only [hse, hr]; rfl
    have HS := Lib.hid hs
    have HFIN := Lib.hid hfin
    obtain ⟨_, c1, _, _, _, _⟩ := h0.cells
    have f1 := h0.frozen 1
    clear hs hse hfin hmo HPL
    go_enter Tryd.func136, Tryd.ntmps136
    go_wp2_with fail
    rw [HW.out]
    refine HS.out.mono ?_
    rintro e w1 ⟨rfl, n1, rfl⟩
    have h2 := (h0.drewN n1).setNext (σ.next + 1) (by omega)
    have hF2 := (hf0.drewN n1).set 1 (.int .i64 ((σ.next : Int) + 1))
    have hz2 := (hz.drewN n1).far (p := ⟨b, 1, none⟩) (by show w.heap.size ≠ b; omega) (.int .i64 ((σ.next : Int) + 1))
    have hg2 := hg0.fr ((Fr.refl b w0).drewN n1 |>.set 1 (.int .i64 ((σ.next : Int) + 1)))
    have HH2 := Lib.hid h2
    have HF2 := Lib.hid hF2
    have HZ2 := Lib.hid hz2
    have HG2 := Lib.hid hg2
    clear h2 hF2 hz2 hg2 h0 hf0 hz hg0
    go_wp2_with fail
    refine (HI.out _ _ HG2.out HH2.out (by show σ.next < σ.next + 1; omega)).mono ?_
    rintro e w5 ⟨v5, t5, σ5, rfl, hN5, h5, hf5, ⟨n5, hr5⟩, hn5⟩
    obtain ⟨k5, num5, nm5, A5, c5, kids5, rfl, rfl, hk5⟩ := hN5
    have hF5 := HF2.out.trans hf5
    have hz5 := HZ2.out.fr hf5 (by omega)
    have hs5 := hz5.lt
    have HR5 := Lib.hid hr5
    have hk5' : KidsC w5 (fun g => w.heap.size ≤ g ∧ g ≠ w.heap.size ∧ g ≠ w5.heap.size) A5 kids5 := hk5.weak (fun g hg hlt => by
      have h1 : ((w0.drewN n1).setCell ⟨b, 1, none⟩ (.int .i64 ((σ.next : Int) + 1))).heap.size ≤ g := hg
      have h2 := HZ2.out.lt
      omega)
    have h6 := h5.alloc (.cells #[.int .u8 (k5 : Int), .int .i64 num5, .string ⟨nm5.toArray⟩, .slice A5 kids5.length c5] 24)
    have hF6 := hF5.alloc (.cells #[.int .u8 (k5 : Int), .int .i64 num5, .string ⟨nm5.toArray⟩, .slice A5 kids5.length c5] 24)
    have hz6 := hz5.alloc (.cells #[.int .u8 (k5 : Int), .int .i64 num5, .string ⟨nm5.toArray⟩, .slice A5 kids5.length c5] 24)
    have hzN6 := Blk.new w5 24 #[.int .u8 (k5 : Int), .int .i64 num5, .string ⟨nm5.toArray⟩, .slice A5 kids5.length c5]
    have hk6 := hk5'.keep ((Keep.refl _ _).alloc (.cells #[.int .u8 (k5 : Int), .int .i64 num5, .string ⟨nm5.toArray⟩, .slice A5 kids5.length c5] 24))
    clear hk5 hk5' hr5 HH2 HF2 HG2 HZ2 hz5 c1 f1 h5 hf5 hF5
    go_wp2_with fail
    refine (require_any ⟨#[41]⟩ _ h6).mono ?_
    rintro e w8 ⟨rfl, h8, hf8⟩
    have hF8 := hF6.trans hf8
    have hzN8 := hzN6.fr hf8 (by omega)
    have hzR8 := hz6.fr hf8 (by omega)
    have hk8 := hk6.keep ((Keep.refl _ _).fr hf8 (by intro h; omega))
    obtain ⟨⟨r0, r1, r2, r3⟩, q0, q1, q2, q3⟩ := hzR8.four
    obtain ⟨⟨s0, s1, s2, s3⟩, _, _, _, _⟩ := hzN8.four
    have Q := Lib.hid (fun v0 v1 v2 v3 => H0.out.st4 hF8 h8 (Nat.le_refl _) v0 v1 v2 v3)
    have QF := Lib.hid (fun v0 v1 v2 v3 => hF8.st4 (Nat.le_refl _) v0 v1 v2 v3)
    have QB := Lib.hid (fun v0 v1 v2 v3 => hzR8.st4 v0 v1 v2 v3)
    have QK := Lib.hid (fun v0 v1 v2 v3 => (hk8.keep ((Keep.refl _ _).st4 (g := w.heap.size) (by intro h; exact h.2.1 rfl) v0 v1 v2 v3)).weak (Z' := (w.heap.size ≤ ·)) (fun g hg _ => hg.1))
    have hpl3 : σ.next ≤ (PP.require E σ5 [41]).next := by
      have h9 : σ.next + 1 ≤ (PP.require E σ5 [41]).next := Nat.le_trans hn5 (next_require E σ5 [41])
      omega
    clear h8 hf8 hF8 hzN8 hzR8 hk8 h6 hF6 hzN6 hz6 hk6
    go_wp2_with fail
    refine bodyPost_ret (node_result rfl rfl (QB.out _ _ _ _)) rfl ?_
    exact ⟨_, _, _, rfl, ⟨k5, num5, nm5, _, c5, kids5, rfl, rfl, QK.out _ _ _ _⟩, Q.out _ _ _ _, QF.out _ _ _ _, ⟨n5 + 1, HFIN.out n5 _ HR5.out⟩, hpl3⟩
  | false =>
    rw [hse] at hs
    have HS := Lib.hid hs
    clear hs
    have hplace : (PP.more E σ && decide ((PP.cur E σ).kind = 2)) = false → ∀ n r, PP.place E n σ = some r → PP.primary E (n + 1) σ = some r := by
      intro hc n r hr
      rw [PP.primary]; simp only [hse, hc, hr]; rfl
    have hnum : (PP.more E σ && decide ((PP.cur E σ).kind = 2)) = true → PP.primary E 1 σ = some ((PP.numP E σ 0 2147483647).1, .node 1 (PP.numP E σ 0 2147483647).2 [] []) := by
      intro hc
      rw [PP.primary]; simp only [hse, hc]; rfl
    have HPLACE := Lib.hid hplace
    have HNUM := Lib.hid hnum
    clear hplace hnum hse HI
    have tail : ∀ (n : Nat) (hc : (PP.more E σ && decide ((PP.cur E σ).kind = 2)) = false), Calls Tryd.prog 144 #[.pointer (some ⟨b, 0, none⟩)] (w0.drewN n) fun e w' =>
        ∃ k5 num5 nm5 A5 c5 kids5 σ5, e = .returned (.agg #[.int .u8 ((k5 : Nat) : Int), .int .i64 num5, .string ⟨(nm5 : List UInt8).toArray⟩, .slice A5 (kids5 : List Tree).length c5]) ∧
          Blk w' w.heap.size 24 #[.int .u8 0, .int .i64 0, .string ⟨#[]⟩, .slice none 0 0] ∧ (∀ v0 v1 v2 v3, TreeEnd b X E σ w (fun σ' t => ∃ n, PP.primary E n σ = some (σ', t)) (.returned (.agg #[.int .u8 ((k5 : Nat) : Int), .int .i64 num5, .string ⟨(nm5 : List UInt8).toArray⟩, .slice A5 (kids5 : List Tree).length c5])) ((((w'.setCell ⟨w.heap.size, 0, none⟩ v0).setCell ⟨w.heap.size, 1, none⟩ v1).setCell ⟨w.heap.size, 2, none⟩ v2).setCell ⟨w.heap.size, 3, none⟩ v3)) ∧ σ5 = σ := by
      intro n hc
      refine (HPL.out _ (hg0.fr ((Fr.refl b w0).drewN n)) (h0.drewN n)).mono ?_
      rintro e w5 ⟨v5, t5, σ5, rfl, hN5, h5, hf5, ⟨n5, hr5⟩, hn5⟩
      obtain ⟨k5, num5, nm5, A5, c5, kids5, rfl, rfl, hk5⟩ := hN5
      have hF5 := (hf0.drewN n).trans hf5
      have hz5 := (hz.drewN n).fr hf5 (by omega)
      have hk5' : KidsC w5 (fun g => w.heap.size ≤ g ∧ g ≠ w.heap.size) A5 kids5 := hk5.weak (fun g hg hlt => by
        have h1 : (w0.drewN n).heap.size ≤ g := hg
        have h2 := (hz.drewN n).lt
        omega)
      refine ⟨k5, num5, nm5, A5, c5, kids5, σ, rfl, hz5, fun v0 v1 v2 v3 => ⟨_, _, σ5, rfl, ⟨k5, num5, nm5, _, c5, kids5, rfl, rfl, (hk5'.keep ((Keep.refl _ _).st4 (g := w.heap.size) (by intro h; exact h.2 rfl) v0 v1 v2 v3)).weak (fun g hg _ => hg.1)⟩, H0.out.st4 hF5 h5 (Nat.le_refl _) v0 v1 v2 v3, hF5.st4 (Nat.le_refl _) v0 v1 v2 v3, ⟨n5 + 1, HPLACE.out hc n5 _ hr5⟩, hn5⟩, rfl⟩
    cases hm : PP.more E σ with
    | false =>
      rw [hm] at hmo
      have HM := Lib.hid hmo
      have HT := Lib.hid (fun n => tail n (by rw [hm]; rfl))
      clear hmo tail HPLACE HNUM HPL h0 hf0 hz hg0 hm
      go_enter Tryd.func136, Tryd.ntmps136
      go_wp2_with fail
      rw [HW.out]
      refine HS.out.mono ?_
      rintro e w1 ⟨rfl, n1, rfl⟩
      go_wp2_with fail
      go_quiet ((go_at_call 62; exact quiet_at _ (HM.out _)))
      go_wp2_with fail
      refine (HT.out _).mono ?_
      rintro e w5 ⟨k5, num5, nm5, A5, c5, kids5, σ5, rfl, hz5, hend, rfl⟩
      obtain ⟨⟨r0, r1, r2, r3⟩, q0, q1, q2, q3⟩ := hz5.four
      have QB := Lib.hid (fun v0 v1 v2 v3 => hz5.st4 v0 v1 v2 v3)
      have QE := Lib.hid hend
      clear hz5 hend
      go_wp2_with fail
      exact bodyPost_ret (node_result rfl rfl (QB.out _ _ _ _)) rfl (QE.out _ _ _ _)
    | true =>
      have hn1 : σ.next < E.ts.length := by
        rcases PP.more_cases E σ with ⟨_, _, h3⟩ | ⟨h1, _⟩ | ⟨h1, _, _⟩
        · exact h3
        · rw [hm] at h1; cases h1
        · rw [hm] at h1; cases h1
      obtain ⟨g, o, hA, t0, t1, t2⟩ := h0.cur hn1
      obtain ⟨c0, c1, _, _, _, _⟩ := h0.cells
      rw [hA] at c0
      have p1 : (0 : Int) ≤ (σ.next : Int) := by omega
      have p2 : (σ.next : Int) < (E.ts.length : Int) := by omega
      rw [hm] at hmo
      have HM := Lib.hid hmo
      by_cases hk : (PP.cur E σ).kind = 2
      · have hk2 : (((PP.cur E σ).kind : Int) == 2) = true := by simp [hk]
        have hfin := HNUM.out (by rw [hm, hk]; rfl)
        have hnp := fun n => numP_any (σ := σ) 0 2147483647 (w0.drewN n) (by omega) (by omega) (by omega) (h0.drewN n)
        have hpl := next_numP E σ 0 2147483647
        generalize hq : PP.numP E σ 0 2147483647 = q at *
        obtain ⟨σ4, v4⟩ := q
        have HF := Lib.hid hfin
        have HNP := Lib.hid hnp
        have hfz : ∀ n w', Fr b (w0.drewN n) w' → Fr b w w' ∧ Blk w' w.heap.size 24 #[.int .u8 0, .int .i64 0, .string ⟨#[]⟩, .slice none 0 0] := fun n w' hf => ⟨(hf0.drewN n).trans hf, (hz.drewN n).fr hf (by omega)⟩
        have HFZ := Lib.hid hfz
        generalize hKK : (PP.cur E σ).kind = KK at *
        clear hmo tail HPLACE HNUM HPL h0 hf0 hz hg0 hm hk hA t1 t2 hnp hfin hq hfz hKK
        go_enter Tryd.func136, Tryd.ntmps136
        go_wp2_with fail
        rw [HW.out]
        refine HS.out.mono ?_
        rintro e w1 ⟨rfl, n1, rfl⟩
        go_wp2_with fail
        go_quiet ((go_at_call 62; exact quiet_at _ (HM.out _)))
        go_wp2_with fail
        refine (HNP.out _).mono ?_
        rintro e w5 ⟨rfl, h5, hf5⟩
        obtain ⟨hF5, hz5⟩ := HFZ.out _ _ hf5
        obtain ⟨⟨r0, r1, r2, r3⟩, q0, q1, q2, q3⟩ := hz5.four
        have Q := Lib.hid (fun v0 v1 v2 v3 => H0.out.st4 hF5 h5 (Nat.le_refl _) v0 v1 v2 v3)
        have QF := Lib.hid (fun v0 v1 v2 v3 => hF5.st4 (Nat.le_refl _) v0 v1 v2 v3)
        have QB := Lib.hid (fun v0 v1 v2 v3 => hz5.st4 v0 v1 v2 v3)
        clear h5 hf5 hF5 hz5
        go_wp2_with fail
        refine bodyPost_ret (node_result rfl rfl (QB.out _ _ _ _)) rfl ?_
        exact ⟨_, _, _, rfl, NodeV.leaf _ _ 1 v4 [], Q.out _ _ _ _, QF.out _ _ _ _, ⟨1, HF.out⟩, hpl⟩
      · have hk2 : (((PP.cur E σ).kind : Int) == 2) = false := beq_eq_false_iff_ne.2 (by omega)
        have HT := Lib.hid (fun n => tail n (by rw [hm]; simp [hk]))
        generalize hKK : (PP.cur E σ).kind = KK at *
        clear hmo tail HPLACE HNUM HPL h0 hf0 hz hg0 hm hk hA t1 t2 hKK
        go_enter Tryd.func136, Tryd.ntmps136
        go_wp2_with fail
        rw [HW.out]
        refine HS.out.mono ?_
        rintro e w1 ⟨rfl, n1, rfl⟩
        go_wp2_with fail
        go_quiet ((go_at_call 62; exact quiet_at _ (HM.out _)))
        go_wp2_with fail
        refine (HT.out _).mono ?_
        rintro e w5 ⟨k5, num5, nm5, A5, c5, kids5, σ5, rfl, hz5, hend, rfl⟩
        obtain ⟨⟨r0, r1, r2, r3⟩, q0, q1, q2, q3⟩ := hz5.four
        have QB := Lib.hid (fun v0 v1 v2 v3 => hz5.st4 v0 v1 v2 v3)
        have QE := Lib.hid hend
        clear hz5 hend
        go_wp2_with fail
        exact bodyPost_ret (node_result rfl rfl (QB.out _ _ _ _)) rfl (QE.out _ _ _ _)
end
end Go.Proofs.YtaaaicpjlaeiiaaDoor
