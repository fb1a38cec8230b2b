/- The contract of the parser's binary, and of its expression. -/
import Derived.Test.YtaaaicpjlaeiiaaDoorParH
import Derived.LoopTactic
import Derived.Deep.AppendLies
import Derived.Deep.RegionLaw
import Derived.Deep.DrawnRows
namespace Go.Proofs.YtaaaicpjlaeiiaaDoor
open Go.RowKit Go.Maps
open PP (Tree)

def nextOf (w : World) (b : Nat) : Nat := match w.cell? ⟨b, 1, none⟩ with
  | some v => (intOf v).toNat
  | none => 0
theorem nextOf_ps {w : World} {b : Nat} {X : Loc} {E : PP.Env} {σ : PP.St} (h : PS w b X E σ) : nextOf w b = σ.next := by
  unfold nextOf
  rw [h.cells.2.1]
  simp [intOf]
theorem level_le (op : Nat) : PP.level op ≤ 11 := by
  by_cases h : op < 24
  · have : ∀ i, i < 24 → PP.level i ≤ 11 := by decide
    exact this op h
  · rw [level_big (by omega)]; omega
theorem Blk.fr2 {w w' w'' : World} {g b : Nat} {t : TypeId} {cs : Array Value} (h : Blk w g t cs) (k : Fr b w' w'') (e : w'.heap = w.heap) (hg : g ≠ b) : Blk w'' g t cs :=
  Blk.fr (w := w') (by unfold Blk; rw [e]; exact h) k hg
/-- Where the loop of binary stands: the state, the tree on the left in its block, and what is still to be read. -/
def BinRel (b : Nat) (X : Loc) (E : PP.Env) (σ : PP.St) (lvl : Nat) (w : World) (L : Nat) (wr : World) : Prop :=
  ∃ σ' k num nm A c kids, PS wr b X E σ' ∧ Fr b w wr ∧ σ.next ≤ σ'.next ∧ Blk wr w.heap.size 24 #[.int .u8 0, .int .i64 0, .string ⟨#[]⟩, .slice none 0 0] ∧
    Blk wr L 24 #[.int .u8 ((k : Nat) : Int), .int .i64 num, .string ⟨(nm : List UInt8).toArray⟩, .slice A (kids : List Tree).length c] ∧
    KidsC wr (fun g => w.heap.size ≤ g ∧ g ≠ w.heap.size ∧ g ≠ L) A kids ∧
    ∀ n r, PP.binLoop E n lvl σ' (.node k num nm kids) = some r → ∃ n', PP.binary E n' lvl σ = some r

theorem bin_step {b L k op k3 : Nat} {X : Loc} {E : PP.Env} {σ σ3 : PP.St} {lvl : Nat} {w wm wm' w3 : World} {num num3 : Int} {nm nm3 : List UInt8} {A A3 : Option Addr} {c c3 : Nat} {kids kids3 : List Tree}
    (hbl : b < w.heap.size) (hRL : w.heap.size < L) (h0 : PS w b X E σ) (hF : Fr b w wm') (e : wm'.heap = wm.heap)
    (hR : Blk wm w.heap.size 24 #[.int .u8 0, .int .i64 0, .string ⟨#[]⟩, .slice none 0 0])
    (hL : Blk wm L 24 #[.int .u8 (k : Int), .int .i64 num, .string ⟨nm.toArray⟩, .slice A kids.length c])
    (hk : KidsC wm (fun g => w.heap.size ≤ g ∧ g ≠ w.heap.size ∧ g ≠ L) A kids)
    (hf3 : Fr b wm' w3) (h3 : PS w3 b X E σ3) (hk3 : KidsC w3 (wm'.heap.size ≤ ·) A3 kids3) (hn : σ.next ≤ σ3.next)
    (hgo : ∀ n r, PP.binLoop E n lvl σ3 (.node op 0 [] [.node k num nm kids, .node k3 num3 nm3 kids3]) = some r → ∃ n', PP.binary E n' lvl σ = some r)
    {wf : World} (hwf : wf = (((((w3.setCell ⟨L, 0, none⟩ (.int .u8 (op : Int))).setCell ⟨L, 1, none⟩ (.int .i64 0)).setCell ⟨L, 2, none⟩ (.string ⟨#[]⟩)).setCell ⟨L, 3, none⟩ (.slice (some ⟨w3.heap.size, 0, none⟩) 2 2)).alloc
      (.cells #[.int .u8 (k : Int), .int .i64 num, .string ⟨nm.toArray⟩, .slice A kids.length c, .int .u8 (k3 : Int), .int .i64 num3, .string ⟨nm3.toArray⟩, .slice A3 kids3.length c3] 24))) :
    PS wf b X E σ3 ∧ BinRel b X E σ lvl w L wf := by
  have hLb : L ≠ b := by omega
  have hL3 := Blk.fr2 hL hf3 e hLb
  have hR3 := Blk.fr2 hR hf3 e (by omega : w.heap.size ≠ b)
  have hF3 := hF.trans hf3
  have hlt := hL3.lt
  have hlm := hL.lt
  have hkk : KidsC w3 (fun g => w.heap.size ≤ g ∧ g ≠ w.heap.size ∧ g ≠ L) A kids :=
    hk.keep (Keep.fr (w' := wm') ⟨by rw [e]; exact Nat.le_refl _, fun g _ _ => by rw [e]⟩ hf3 (by intro h; have := h.1; omega))
  have hkk3 : KidsC w3 (fun g => w.heap.size ≤ g ∧ g ≠ w.heap.size ∧ g ≠ L) A3 kids3 := hk3.weak (fun g hg _ => by
    have h1 : wm'.heap.size ≤ g := hg
    rw [e] at h1
    omega)
  have hK := kids_two (w := w3) (Z := fun g => w.heap.size ≤ g ∧ g ≠ w.heap.size ∧ g ≠ L) (by refine ⟨?_, ?_, ?_⟩ <;> omega) (k := k) (num := num) (nm := nm) (c := c) hkk (k' := k3) (num' := num3) (nm' := nm3) (c' := c3) hkk3 24
  rw [← st4_alloc w3 _ L _ _ _ _ hlt] at hwf
  have hFa := hF3.alloc (.cells #[.int .u8 (k : Int), .int .i64 num, .string ⟨nm.toArray⟩, .slice A kids.length c, .int .u8 (k3 : Int), .int .i64 num3, .string ⟨nm3.toArray⟩, .slice A3 kids3.length c3] 24)
  have hPa := h3.alloc (.cells #[.int .u8 (k : Int), .int .i64 num, .string ⟨nm.toArray⟩, .slice A kids.length c, .int .u8 (k3 : Int), .int .i64 num3, .string ⟨nm3.toArray⟩, .slice A3 kids3.length c3] 24)
  have hP := h0.st4 hFa hPa (by omega : w.heap.size ≤ L) (.int .u8 (op : Int)) (.int .i64 0) (.string ⟨#[]⟩) (.slice (some ⟨w3.heap.size, 0, none⟩) 2 2)
  have hR4 := ((((hR3.alloc (.cells #[.int .u8 (k : Int), .int .i64 num, .string ⟨nm.toArray⟩, .slice A kids.length c, .int .u8 (k3 : Int), .int .i64 num3, .string ⟨nm3.toArray⟩, .slice A3 kids3.length c3] 24)).far (p := ⟨L, 0, none⟩) (by show w.heap.size ≠ L; omega) (.int .u8 (op : Int))).far (p := ⟨L, 1, none⟩) (by show w.heap.size ≠ L; omega) (.int .i64 0)).far (p := ⟨L, 2, none⟩) (by show w.heap.size ≠ L; omega) (.string ⟨#[]⟩)).far (p := ⟨L, 3, none⟩) (by show w.heap.size ≠ L; omega) (.slice (some ⟨w3.heap.size, 0, none⟩) 2 2)
  subst hwf
  refine ⟨hP, σ3, op, 0, [], some ⟨w3.heap.size, 0, none⟩, 2, [.node k num nm kids, .node k3 num3 nm3 kids3], hP, hFa.st4 (by omega) _ _ _ _, hn, hR4, (hL3.alloc _).st4 _ _ _ _, ?_, hgo⟩
  exact hK.keep ((Keep.refl _ _).st4 (g := L) (by intro h; exact h.2.2 rfl) _ _ _ _)

section
set_option maxHeartbeats 1000000
attribute [local go_sem ↓] Go.wp_at_zero Go.wp_at_succ
set_option maxRecDepth 100000
variable {b : Nat} {X : Loc} {E : PP.Env} {σ : PP.St}
theorem binary_any (lvl : Nat) (w : World) (hg : Gx w b X) (h : PS w b X E σ)
    (HU : ∀ w', Gx w' b X → PS w' b X E σ → Calls Tryd.prog 122 #[.pointer (some ⟨b, 0, none⟩)] w' (TreeEnd b X E σ w' fun σ'' t => ∃ n, PP.unary E n σ = some (σ'', t)))
    (IHB : ∀ σ' w' (l : Nat), Gx w' b X → PS w' b X E σ' → σ.next < σ'.next → Calls Tryd.prog 94 #[.pointer (some ⟨b, 0, none⟩), .int .i64 (l : Int)] w' (TreeEnd b X E σ' w' fun σ'' t => ∃ n, PP.binary E n l σ' = some (σ'', t))) :
    Calls Tryd.prog 94 #[.pointer (some ⟨b, 0, none⟩), .int .i64 (lvl : Int)] w (TreeEnd b X E σ w fun σ' t => ∃ n, PP.binary E n lvl σ = some (σ', t)) := by
  have hbl := h.lt
  have hlen := h.len
  have HIB := Lib.hid IHB
  clear IHB
  have hz := Blk.new w 24 #[.int .u8 0, .int .i64 0, .string ⟨#[]⟩, .slice none 0 0]
  have h0 := h.alloc (.cells #[.int .u8 0, .int .i64 0, .string ⟨#[]⟩, .slice none 0 0] 24)
  have hf0 := (Fr.refl b w).alloc (.cells #[.int .u8 0, .int .i64 0, .string ⟨#[]⟩, .slice none 0 0] 24)
  have hg0 := hg.fr hf0
  generalize hW : w.alloc (.cells #[.int .u8 0, .int .i64 0, .string ⟨#[]⟩, .slice none 0 0] 24) = w0 at *
  have HU0 := Lib.hid (HU w0 hg0 h0)
  have HW := Lib.hid hW
  have H0 := Lib.hid h
  have HGX := Lib.hid hg
  have HF0 := Lib.hid hf0
  have HZ := Lib.hid hz
  clear hW h hg h0 hf0 hg0 hz HU
  go_enter Tryd.func94, Tryd.ntmps94
  go_wp2_with fail
  rw [HW.out]
  refine HU0.out.mono ?_
  rintro e w1 ⟨v1, t1, σ1, rfl, hN1, h1, hf1, ⟨n1, hr1⟩, hn1⟩
  obtain ⟨k1, num1, nm1, A1, c1, kids1, rfl, rfl, hk1⟩ := hN1
  have hF1 := HF0.out.trans hf1
  have hz1 := HZ.out.fr hf1 (by omega)
  have hk1' : KidsC w1 (fun g => w.heap.size ≤ g ∧ g ≠ w.heap.size ∧ g ≠ w1.heap.size) A1 kids1 := hk1.weak (fun g hg hlt => by
    have h1 : w0.heap.size ≤ g := hg
    have h2 := HZ.out.lt
    omega)
  have hstart : BinRel b X E σ lvl w w1.heap.size (w1.alloc (.cells #[.int .u8 (k1 : Int), .int .i64 num1, .string ⟨nm1.toArray⟩, .slice A1 kids1.length c1] 24)) :=
    ⟨σ1, k1, num1, nm1, A1, c1, kids1, h1.alloc _, hF1.alloc _, hn1, hz1.alloc _, Blk.new _ _ _, hk1'.keep ((Keep.refl _ _).alloc _), fun n r hr => ⟨max n1 n + 1, by
      rw [PP.binary, PP.unary_le E (Nat.le_max_left _ _) hr1]
      exact PP.binLoop_le E (Nat.le_max_right _ _) hr⟩⟩
  have hRL : w.heap.size < w1.heap.size := hz1.lt
  have HST := Lib.hid hstart
  clear hstart hk1 hk1' hz1 hF1 hr1 hf1 h1 hn1
  go_wp2_with fail
  generalize w1.alloc (.cells #[.int .u8 (k1 : Int), .int .i64 num1, .string ⟨nm1.toArray⟩, .slice A1 kids1.length c1] 24) = ws at *
  generalize w1.heap.size = L at *
  go_loopw [] (fun wr => BinRel b X E σ lvl w L wr) (fun wr => E.ts.length - nextOf wr b)
  case atStart => exact HST.out
  case round =>
    obtain ⟨σ', k, num, nm, A, c, kids, hp, hF, hn, hzR, hzL, hk, hgo⟩ := hrel
    have HGO := Lib.hid hgo
    clear hgo HST
    have hmo := more_any _ hp
    cases hm : PP.more E σ' with
    | false =>
      rw [hm] at hmo
      have hfin := HGO.out 1 (σ', .node k num nm kids) (by rw [PP.binLoop, hm]; rfl)
      have HM := Lib.hid hmo
      have HFIN := Lib.hid hfin
      obtain ⟨⟨r0, r1, r2, r3⟩, q0, q1, q2, q3⟩ := hzR.four
      obtain ⟨⟨s0, s1, s2, s3⟩, _, _, _, _⟩ := hzL.four
      have Q := Lib.hid (fun n v0 v1 v2 v3 => H0.out.st4 (hF.drewN n) (hp.drewN n) (Nat.le_refl _) v0 v1 v2 v3)
      have QF := Lib.hid (fun n v0 v1 v2 v3 => (hF.drewN n).st4 (Nat.le_refl _) v0 v1 v2 v3)
      have QB := Lib.hid (fun n v0 v1 v2 v3 => (hzR.drewN n).st4 v0 v1 v2 v3)
      have QK := Lib.hid (fun n v0 v1 v2 v3 => (hk.keep (((Keep.refl _ _).drewN n).st4 (g := w.heap.size) (by intro h; exact h.2.1 rfl) v0 v1 v2 v3)).weak (Z' := (w.heap.size ≤ ·)) (fun g hg _ => hg.1))
      clear hmo hfin hm hp hF hzR hzL hk HGO
      go_wp2_with fail
      refine HM.out.mono ?_
      rintro e w2 ⟨rfl, n2, rfl⟩
      go_wp2_with fail
      refine bodyPost_ret (node_result rfl rfl (QB.out _ _ _ _ _)) rfl ?_
      exact ⟨_, _, σ', rfl, ⟨k, num, nm, _, c, kids, rfl, rfl, QK.out _ _ _ _ _⟩, Q.out _ _ _ _ _, QF.out _ _ _ _ _, HFIN.out, hn⟩
    | true =>
      rw [hm] at hmo
      have HM := Lib.hid hmo
      have hnx : σ'.next < E.ts.length := by
        rcases PP.more_cases E σ' with ⟨_, _, h3⟩ | ⟨h1, _⟩ | ⟨h1, _, _⟩
        · exact h3
        · rw [hm] at h1; cases h1
        · rw [hm] at h1; cases h1
      obtain ⟨g, o, hA, t0, t1, t2⟩ := hp.cur hnx
      obtain ⟨c0, c1', _, c3', _, _⟩ := hp.cells
      have f1 := hp.frozen 1
      rw [hA] at c0
      have htl := hp.txt _ (List.mem_of_getElem? (PP.cur_at E hnx))
      have hgx := HGX.out.fr hF
      have hlook : ∀ n, (Instr.lookup 107 (.map (some X.m)) (.string ⟨(PP.cur E σ').text.toArray⟩) true).run Tryd.prog (wr.drewN n) = .ok (.tuple #[.int .u8 (((PP.opOf (PP.cur E σ').text).getD 0 : Nat) : Int), .bool (PP.opOf (PP.cur E σ').text).isSome]) (wr.drewN n) := fun n =>
        MapAt.look (w := wr.drewN n) (World.ownsMap.kept hgx.map ((Fr.refl b wr).drewN n) (by simpa using hgx.mne)) _ htl
      have hlvl : ∀ n op, op ≤ 255 → Calls Tryd.prog 30 #[.int .u8 ((op : Nat) : Int)] (wr.drewN n) fun e w' => e = .returned (.int .i64 (PP.level op : Int)) ∧ wr.drewN n = w' := fun n op ho => level_any op _ (hgx.fr ((Fr.refl b wr).drewN n)).ops ho
      have p1 : (0 : Int) ≤ (σ'.next : Int) := by omega
      have p2 : (σ'.next : Int) < (E.ts.length : Int) := by omega
      have HLV := Lib.hid hlvl
      generalize hT : (PP.cur E σ').text = T at *
      have hmeas := nextOf_ps hp
      cases ho : PP.opOf T with
      | none =>
        rw [ho] at hlook
        have hfin := HGO.out 1 (σ', .node k num nm kids) (by rw [PP.binLoop, hm, hT, ho]; rfl)
        have HFIN := Lib.hid hfin
        obtain ⟨⟨r0, r1, r2, r3⟩, q0, q1, q2, q3⟩ := hzR.four
        obtain ⟨⟨s0, s1, s2, s3⟩, _, _, _, _⟩ := hzL.four
        have Q := Lib.hid (fun n v0 v1 v2 v3 => H0.out.st4 (hF.drewN n) (hp.drewN n) (Nat.le_refl _) v0 v1 v2 v3)
        have QF := Lib.hid (fun n v0 v1 v2 v3 => (hF.drewN n).st4 (Nat.le_refl _) v0 v1 v2 v3)
        have QB := Lib.hid (fun n v0 v1 v2 v3 => (hzR.drewN n).st4 v0 v1 v2 v3)
        have QK := Lib.hid (fun n v0 v1 v2 v3 => (hk.keep (((Keep.refl _ _).drewN n).st4 (g := w.heap.size) (by intro h; exact h.2.1 rfl) v0 v1 v2 v3)).weak (Z' := (w.heap.size ≤ ·)) (fun g hg _ => hg.1))
        simp only [Option.getD_none, Option.isSome_none] at hlook
        clear hmo hfin hm hp hF hzR hzL hk HGO hT ho hgx hlvl hA t0 t2 htl hmeas
        go_wp2_with fail
        refine HM.out.mono ?_
        rintro e w2 ⟨rfl, n2, rfl⟩
        go_wp2_with fail
        go_quiet (fail)
        go_wp2_with fail
        refine bodyPost_ret (node_result rfl rfl (QB.out _ _ _ _ _)) rfl ?_
        exact ⟨_, _, σ', rfl, ⟨k, num, nm, _, c, kids, rfl, rfl, QK.out _ _ _ _ _⟩, Q.out _ _ _ _ _, QF.out _ _ _ _ _, HFIN.out, hn⟩
      | some op =>
        obtain ⟨ho1, ho2, hsy⟩ := opOf_some ho
        rw [ho] at hlook
        simp only [Option.getD_some, Option.isSome_some] at hlook
        have hlo : PP.level op ≤ 11 := level_le op
        by_cases hll : PP.level op < lvl
        · have hfin := HGO.out 1 (σ', .node k num nm kids) (by rw [PP.binLoop, hm, hT, ho]; simp [hll])
          have HFIN := Lib.hid hfin
          have e1 : decide (PP.level op < lvl) = true := by simpa using hll
          have e2 : decide ((PP.level op : Int) < (lvl : Int)) = true := by simpa using hll
          obtain ⟨⟨r0, r1, r2, r3⟩, q0, q1, q2, q3⟩ := hzR.four
          obtain ⟨⟨s0, s1, s2, s3⟩, _, _, _, _⟩ := hzL.four
          have Q := Lib.hid (fun n v0 v1 v2 v3 => H0.out.st4 (hF.drewN n) (hp.drewN n) (Nat.le_refl _) v0 v1 v2 v3)
          have QF := Lib.hid (fun n v0 v1 v2 v3 => (hF.drewN n).st4 (Nat.le_refl _) v0 v1 v2 v3)
          have QB := Lib.hid (fun n v0 v1 v2 v3 => (hzR.drewN n).st4 v0 v1 v2 v3)
          have QK := Lib.hid (fun n v0 v1 v2 v3 => (hk.keep (((Keep.refl _ _).drewN n).st4 (g := w.heap.size) (by intro h; exact h.2.1 rfl) v0 v1 v2 v3)).weak (Z' := (w.heap.size ≤ ·)) (fun g hg _ => hg.1))
          clear hmo hfin hm hp hF hzR hzL hk HGO hT ho hgx hlvl hA t0 t2 htl hmeas hsy
          go_wp2_with fail
          refine HM.out.mono ?_
          rintro e w2 ⟨rfl, n2, rfl⟩
          go_wp2_with fail
          go_quiet (fail)
          go_wp2_with fail
          refine (HLV.out _ op (by omega)).mono ?_
          rintro e w2 ⟨rfl, rfl⟩
          go_wp2_with fail
          refine bodyPost_ret (node_result rfl rfl (QB.out _ _ _ _ _)) rfl ?_
          exact ⟨_, _, σ', rfl, ⟨k, num, nm, _, c, kids, rfl, rfl, QK.out _ _ _ _ _⟩, Q.out _ _ _ _ _, QF.out _ _ _ _ _, HFIN.out, hn⟩
        · have e1 : decide (PP.level op < lvl) = false := by simpa using hll
          have e2 : decide ((PP.level op : Int) < (lvl : Int)) = false := by simpa using hll
          have hgo2 : ∀ n σ2 t2 r, PP.binary E n (PP.level op + 1) (PP.adv σ') = some (σ2, t2) → PP.binLoop E n lvl σ2 (.node op 0 [] [.node k num nm kids, t2]) = some r → ∃ n', PP.binary E n' lvl σ = some r := by
            intro n σ2 t2 r hb hl
            exact HGO.out (n + 1) r (by rw [PP.binLoop, hm, hT, ho]; simp [hll, hb, hl])
          have HGO2 := Lib.hid hgo2
          have h2 : ∀ n, PS ((wr.drewN n).setCell ⟨b, 1, none⟩ (.int .i64 ((σ'.next : Int) + 1))) b X E (PP.adv σ') := fun n => (hp.drewN n).setNext (σ'.next + 1) (by omega)
          have hF2 : ∀ n, Fr b w ((wr.drewN n).setCell ⟨b, 1, none⟩ (.int .i64 ((σ'.next : Int) + 1))) := fun n => (hF.drewN n).set 1 _
          have hzR2 : ∀ n, Blk ((wr.drewN n).setCell ⟨b, 1, none⟩ (.int .i64 ((σ'.next : Int) + 1))) w.heap.size 24 #[.int .u8 0, .int .i64 0, .string ⟨#[]⟩, .slice none 0 0] := fun n => (hzR.drewN n).far (p := ⟨b, 1, none⟩) (by show w.heap.size ≠ b; omega) _
          have hzL2 : ∀ n, Blk ((wr.drewN n).setCell ⟨b, 1, none⟩ (.int .i64 ((σ'.next : Int) + 1))) L 24 #[.int .u8 (k : Int), .int .i64 num, .string ⟨nm.toArray⟩, .slice A kids.length c] := fun n => (hzL.drewN n).far (p := ⟨b, 1, none⟩) (by show L ≠ b; omega) _
          have hk2 : ∀ n, KidsC ((wr.drewN n).setCell ⟨b, 1, none⟩ (.int .i64 ((σ'.next : Int) + 1))) (fun g => w.heap.size ≤ g ∧ g ≠ w.heap.size ∧ g ≠ L) A kids := fun n => hk.keep (((Keep.refl _ _).drewN n).set (p := ⟨b, 1, none⟩) (by intro h; have : w.heap.size ≤ b := h.1; omega) _)
          have H2 := Lib.hid h2
          have HF2 := Lib.hid hF2
          have HZR2 := Lib.hid hzR2
          have HZL2 := Lib.hid hzL2
          have HK2 := Lib.hid hk2
          clear hmo hgo2 hm hp hF hzR hzL hk HGO hT ho hgx hlvl hA t0 t2 htl h2 hF2 hzR2 hzL2 hk2 hsy
          go_wp2_with fail
          refine HM.out.mono ?_
          rintro e w2 ⟨rfl, n2, rfl⟩
          go_wp2_with fail
          go_quiet (fail)
          go_wp2_with fail
          refine (HLV.out _ op (by omega)).mono ?_
          rintro e w2 ⟨rfl, rfl⟩
          go_wp2_with fail
          have hlw : IntKind.i64.wrap ((PP.level op : Int) + 1) = ((PP.level op + 1 : Nat) : Int) := by
            rw [show ((PP.level op : Int) + 1) = ((PP.level op + 1 : Nat) : Int) from by omega]
            exact IntWalk.i64_in _ (by omega)
          have hlw' : IntKind.i64.wrap ((PP.level op : Int) + 1) = (PP.level op : Int) + 1 := IntWalk.i64_in _ (by omega)
          have HLVG := Lib.hid (fun (W : World) (hW : Fr b w W) => level_any op W (HGX.out.fr hW).ops (by omega))
          have HBG := Lib.hid (fun (W : World) (hW : Fr b w W) (hP : PS W b X E (PP.adv σ')) => show Calls Tryd.prog 94 #[.pointer (some ⟨b, 0, none⟩), .int .i64 ((PP.level op : Int) + 1)] W _ from HIB.out (PP.adv σ') W (PP.level op + 1) (HGX.out.fr hW) hP (by simp [PP.adv]; omega))
          have hLb : L ≠ b := by omega
          clear HLV hlook
          have P2 := Lib.hid (H2.out (n2 + nq))
          have PF2 := Lib.hid (HF2.out (n2 + nq))
          have PR2 := Lib.hid (HZR2.out (n2 + nq))
          have PL2 := Lib.hid (HZL2.out (n2 + nq))
          have PK2 := Lib.hid (HK2.out (n2 + nq))
          clear H2 HF2 HZR2 HZL2 HK2
          generalize (wr.drewN (n2 + nq)).setCell ⟨b, 1, none⟩ (.int .i64 ((σ'.next : Int) + 1)) = wm at *
          obtain ⟨⟨s0, s1, s2, s3⟩, d0, d1, d2, d3⟩ := PL2.out.four
          go_region_law (first | (go_simp; go_at_call 30; refine (HLVG.out _ ?_).mono ?_; (first | exact PF2.out | exact PF2.out.drew | exact PF2.out.drewN _); rintro e w2 ⟨rfl, rfl⟩) | (go_simp; go_at_call 94; refine (HBG.out _ ?_ ?_).mono ?_; (first | exact PF2.out | exact PF2.out.drew | exact PF2.out.drewN _); (first | exact P2.out | exact P2.out.drew | exact P2.out.drewN _); rintro e w3 ⟨v3, t3, σ3, rfl, ⟨k3, num3, nm3, A3, c3, kids3, rfl, rfl, hk3⟩, h3, hf3, hr3, hn3⟩; have hL3 := Blk.fr2 PL2.out hf3 rfl hLb; have hL3lt := hL3.lt; obtain ⟨⟨a0, a1, a2, a3⟩, b0, b1, b2, b3⟩ := hL3.four))
          all_goals
            have HBS := Lib.hid (bin_step (lvl := lvl) (c3 := c3) (num3 := num3) (nm3 := nm3) (k3 := k3) (op := op) hbl hRL H0.out (by first | exact PF2.out | exact PF2.out.drew | exact PF2.out.drewN _) (by rfl) PR2.out PL2.out PK2.out hf3 h3 hk3 (by simp [PP.adv] at hn3; omega) (by obtain ⟨m3, hr3⟩ := hr3; intro n r hr; exact HGO2.out (max m3 n) _ _ _ (PP.binary_le E (Nat.le_max_left _ _) hr3) (PP.binLoop_le E (Nat.le_max_right _ _) hr)) rfl)
            have hnn : σ'.next < σ3.next := by simp [PP.adv] at hn3; omega
            clear hk3 h3 hf3 hr3 P2 PF2 PR2 PL2 PK2
            go_wp2_with fail
            go_roundw
            case rel => exact HBS.out.2
            case measure =>
              have e3 := nextOf_ps HBS.out.1
              rw [e3, hmeas]
              omega
end
end Go.Proofs.YtaaaicpjlaeiiaaDoor
