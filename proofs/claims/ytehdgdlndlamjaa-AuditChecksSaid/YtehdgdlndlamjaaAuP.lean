/- The reference's cores. -/
import Derived.Test.YtehdgdlndlamjaaAuI
import Derived.Test.YtehdgdlndlamjaaPlainAu6
import Derived.Laws.MakeOwn
namespace Go.Proofs.Ytehdgdlndlamjaa
open Go.RowKit Go.Maps Go.Sort Go.Lib
open SL (Tk Cd)
open AU (Pr Rq Ev Mo)
def bsC (U : List Bool) : Array Value := (U.map Value.bool).toArray
def isC (O : List Int) : Array Value := (O.map (Value.int .i64)).toArray
theorem bsC_at {U : List Bool} {c : Nat} {b : Bool} (h : U[c]? = some b) : (bsC U)[c]? = some (.bool b) := by
  unfold bsC
  simp [h]
theorem isC_at {O : List Int} {c : Nat} {b : Int} (h : O[c]? = some b) : (isC O)[c]? = some (.int .i64 b) := by
  unfold isC
  simp [h]
theorem bsC_set (U : List Bool) (c : Nat) (b : Bool) : (bsC U).setIfInBounds c (.bool b) = bsC (U.set c b) := by
  unfold bsC
  rw [List.setIfInBounds_toArray, List.map_set]
theorem isC_set (O : List Int) (c : Nat) (b : Int) : (isC O).setIfInBounds c (.int .i64 b) = isC (O.set c b) := by
  unfold isC
  rw [List.setIfInBounds_toArray, List.map_set]
theorem bsC_zero (n : Nat) : bsC (AU.markU n []) = madeCells #[.bool false] n := by
  apply Array.ext_getElem?
  intro i
  unfold bsC AU.markU madeCells
  by_cases h : i < n
  · simp [h, Nat.mod_one]
  · simp [h]
theorem isC_zero (n : Nat) : isC (List.replicate n 0) = madeCells #[.int .i64 0] n := by
  apply Array.ext_getElem?
  intro i
  unfold isC madeCells
  by_cases h : i < n
  · simp [h, Nat.mod_one]
  · simp [h]
theorem AU.markU_snoc {n : Nat} {bs : List Int} {b : Int} (c : Nat) (hb : b = (c : Int)) : AU.markU n (bs ++ [b]) = (AU.markU n bs).set c true := by
  apply List.ext_getElem?
  intro i
  rw [List.getElem?_set]
  unfold AU.markU
  by_cases hi : i < n
  · simp only [List.getElem?_map, List.getElem?_range hi, Option.map_some, List.length_map, List.length_range, List.any_append]
    by_cases hc : c = i
    · subst hc
      simp [hi, hb]
    · rw [if_neg hc]
      have : (b == (i : Int)) = false := beq_false_of_ne (by omega)
      simp [this]
  · have hn : (List.range n)[i]? = none := List.getElem?_eq_none (by simp; omega)
    simp only [List.getElem?_map, hn, Option.map_none, List.length_map, List.length_range]
    split
    · rw [if_neg (by omega)]
    · rfl
theorem AU.markU_neg {n : Nat} {bs : List Int} {b : Int} (hb : b < 0) : AU.markU n (bs ++ [b]) = AU.markU n bs := by
  unfold AU.markU
  apply List.map_congr_left
  intro c _
  rw [List.any_append]
  have : (b == (c : Int)) = false := beq_false_of_ne (by omega)
  simp [this]
theorem AU.markU_len (n : Nat) (bs : List Int) : (AU.markU n bs).length = n := by simp [AU.markU]
/-- Midway through the first loop. -/
structure C1Rel (w : World) (gu go n : Nat) (bs : List Int) (k : Nat) (wr : World) : Prop where
  be : Below w.heap.size w wr
  bu : Blk wr gu 4 (bsC (AU.markU n (bs.take k)))
  bo : Blk wr go 3 (isC (bs.take k ++ List.replicate (bs.length - k) 0))
/-- Midway through the second loop. -/
structure C2Rel (w : World) (gu go n : Nat) (bs : List Int) (k : Nat) (wr : World) : Prop where
  be : Below w.heap.size w wr
  bu : Blk wr gu 4 (bsC (AU.st2 (AU.markU n bs) bs k).1)
  bo : Blk wr go 3 (isC ((AU.st2 (AU.markU n bs) bs k).2 ++ bs.drop k))
/-- Midway through its inner loop: the core is not found, or it is. -/
def C3Rel (w : World) (gu go n : Nat) (bs : List Int) (k : Nat) (U : List Bool) (O : List Int) (b : Int) (iv : Value) (wr : World) : Prop :=
  ∃ c : Nat, c ≤ n ∧ iv = .int .i64 (c : Int) ∧ Below w.heap.size w wr ∧ ((Blk wr gu 4 (bsC U) ∧ Blk wr go 3 (isC (O ++ b :: bs.drop (k + 1))) ∧ ∀ d, d < c → U[d]? = some true) ∨
    (∃ f : Nat, b < 0 ∧ f < n ∧ c = f + 1 ∧ AU.firstF U = some f ∧ Blk wr gu 4 (bsC (U.set f true)) ∧ Blk wr go 3 (isC (O ++ (f : Int) :: bs.drop (k + 1)))))
section
set_option maxHeartbeats 4000000
set_option maxRecDepth 100000
theorem rcores_any (bs : List Int) (A : Option Addr) (c0 n : Nat) (w : World) (h : Row w A (bs.map (Value.int .i64))) (hb : ∀ b ∈ bs, b < (n : Int)) (hl : bs.length ≤ 40) (hn : n ≤ 8) :
    Calls Try.prog 36 #[.slice A bs.length c0, .int .i64 (n : Int)] w fun e w' => ∃ g, e = .returned (.slice (some ⟨g, 0, none⟩) bs.length bs.length) ∧ Blk w' g 3 (isC (AU.coresR n bs)) ∧ w.heap.size ≤ g ∧ Below w.heap.size w w' := by
  have hnot : ∀ (x : Bool) (w : World), (Op.unary .not (.bool x)).run Try.prog w = .ok (.bool (!x)) w := fun _ _ => rfl
  obtain ⟨i2, li, lz0, lz1, lz2⟩ := info_parts infoIntN
  obtain ⟨i3, bi, bz0, bz1, bz2⟩ := info_parts infoBoolN
  have hmk : ∀ W : World, (Instr.makeSlice 88 (.int .i64 (n : Int)) (.int .i64 (n : Int))).run Try.prog W = .ok (.slice (some ⟨W.heap.size, 0, none⟩) n n) (W.alloc (.cells (bsC (AU.markU n [])) 4)) := fun W => by
    have h := run_make (P := Try.prog) W 88 4 i3 _ Try.underlying88 bi bz0 .i64 .i64 (n : Int) (n : Int) (by omega) (by omega) (by rw [bz2]; omega) (by omega)
    rw [bz1, Int.toNat_natCast, Nat.mul_one] at h
    rw [bsC_zero]
    exact h
  have hmi : ∀ W : World, (Instr.makeSlice 37 (.int .i64 (bs.length : Int)) (.int .i64 (bs.length : Int))).run Try.prog W = .ok (.slice (some ⟨W.heap.size, 0, none⟩) bs.length bs.length) (W.alloc (.cells (isC (List.replicate bs.length 0)) 3)) := fun W => by
    have h := run_make (P := Try.prog) W 37 3 i2 _ Try.underlying37 li lz0 .i64 .i64 (bs.length : Int) (bs.length : Int) (by omega) (by omega) (by rw [lz2]; omega) (by omega)
    rw [lz1, Int.toNat_natCast, Nat.mul_one] at h
    rw [isC_zero]
    exact h
  have HR := Lib.hid h
  have HBB := Lib.hid hb
  have HD0 := Lib.hid (show C1Rel w w.heap.size (w.heap.size + 1) n bs 0 ((w.alloc (.cells (bsC (AU.markU n [])) 4)).alloc (.cells (isC (List.replicate bs.length 0)) 3)) from
    ⟨((Below.refl w.heap.size w).alloc (Nat.le_refl _) _).alloc (by simp) _, by rw [List.take_zero]; exact (Blk.new w _ _).alloc _, by rw [List.take_zero, List.nil_append, Nat.sub_zero]; exact blk_second w _ _ _ _⟩)
  clear li lz0 lz1 lz2 bi bz0 bz1 bz2 h hb
  go_enter Try.func36, Try.ntmps36
  go_wp2_with fail
  generalize (w.alloc (.cells (bsC (AU.markU n [])) 4)).alloc (.cells (isC (List.replicate bs.length 0)) 3) = w1 at *
  have hne : w.heap.size + 1 ≠ w.heap.size := by omega
  have hgw : w.heap.size ≤ w.heap.size + 1 := by omega
  generalize w.heap.size + 1 = go at *
  go_loopw [7] (fun iv wr => ∃ k : Nat, k ≤ bs.length ∧ iv = .int .i64 (k : Int) ∧ C1Rel w w.heap.size go n bs k wr) (fun iv _ => bs.length - (intOf iv).toNat)
  case atStart => exact ⟨0, Nat.zero_le _, rfl, HD0.out⟩
  case round =>
    clear HD0 hmk hmi
    obtain ⟨k, hk, rfl, hD⟩ := hrel
    have HD := Lib.hid hD
    by_cases hlt : k < bs.length
    · have q0 : (k : Int) < (bs.length : Int) := by omega
      obtain ⟨b, hbk⟩ : ∃ b, bs[k]? = some b := ⟨_, List.getElem?_eq_getElem hlt⟩
      obtain ⟨gb, ob, rfl, hgb, x0⟩ := (HR.out.below hD.be).at (show (bs.map (Value.int .i64))[k]? = some (.int .i64 b) by rw [List.getElem?_map, hbk]; rfl)
      have htk : bs.take (k + 1) = bs.take k ++ [b] := by
        obtain ⟨h1, h2⟩ := List.getElem?_eq_some_iff.1 hbk
        rw [List.take_succ_eq_append_getElem h1, h2]
      have hol : (isC (bs.take k ++ List.replicate (bs.length - k) 0))[k]? = some (.int .i64 0) := isC_at (by
        rw [List.getElem?_append_right (by simp; omega), List.length_take, show k - min k bs.length = 0 from by omega, show bs.length - k = (bs.length - (k + 1)) + 1 from by omega, List.replicate_succ]
        rfl)
      have hos : (bs.take k ++ List.replicate (bs.length - k) 0).set k b = bs.take (k + 1) ++ List.replicate (bs.length - (k + 1)) 0 := by
        rw [htk, List.set_append_right _ _ (by simp; omega), List.length_take, show k - min k bs.length = 0 from by omega, show bs.length - k = (bs.length - (k + 1)) + 1 from by omega, List.replicate_succ, List.set_cons_zero, List.append_assoc]
        rfl
      have y0 := (hD.bo.cell k).trans hol
      have f0 := hD.bo.frozen k
      have hbn := HBB.out b (List.mem_of_getElem? hbk)
      have hneb : gb ≠ go ∨ True := .inr trivial
      have hgol := hD.bo.lt
      have hb1 := hD.bo.set_ k (.int .i64 b)
      rw [isC_set, hos] at hb1
      have HB1 := Lib.hid hb1
      have hfs : FxT [3] wr (wr.setCell ⟨go, k, none⟩ (.int .i64 b)) := (FxT.refl _ wr).set hD.bo (by simp) k _
      have HU1 := Lib.hid (hD.bu.fx hfs (by decide))
      have HE1 := Lib.hid (hD.be.setCell (p := ⟨go, k, none⟩) hgw (.int .i64 b))
      have x1 : (wr.setCell ⟨go, k, none⟩ (.int .i64 b)).cell? ⟨gb, ob + k, none⟩ = some (.int .i64 b) := by
        obtain ⟨gb', ob', e, _, x2⟩ := (HR.out.below HE1.out).at (show (bs.map (Value.int .i64))[k]? = some (.int .i64 b) by rw [List.getElem?_map, hbk]; rfl)
        injection e with e
        injection e with e1 e2
        subst e1 e2
        exact x2
      by_cases h0 : 0 ≤ b
      · have d0 : decide (0 ≤ b) = true := decide_eq_true h0
        obtain ⟨c, hc⟩ : ∃ c : Nat, b = (c : Int) := ⟨b.toNat, by omega⟩
        have hcn : c < n := by omega
        have qc : (c : Int) < (n : Int) := by omega
        have hul : ∃ u, (AU.markU n (bs.take k))[c]? = some u := ⟨_, List.getElem?_eq_getElem (by rw [AU.markU_len]; exact hcn)⟩
        obtain ⟨u, hu⟩ := hul
        have z0 := (HU1.out.cell c).trans (bsC_at hu)
        have g0 := HU1.out.frozen c
        have hb2 := HU1.out.set_ c (.bool true)
        rw [bsC_set, ← AU.markU_snoc c hc, ← htk] at hb2
        have HB2 := Lib.hid hb2
        have hfs2 : FxT [4] (wr.setCell ⟨go, k, none⟩ (.int .i64 b)) ((wr.setCell ⟨go, k, none⟩ (.int .i64 b)).setCell ⟨w.heap.size, c, none⟩ (.bool true)) := (FxT.refl _ _).set HU1.out (by simp) c _
        have HO2 := Lib.hid (HB1.out.fx hfs2 (by decide))
        have HE2 := Lib.hid (HE1.out.setCell (p := ⟨w.heap.size, c, none⟩) (Nat.le_refl _) (.bool true))
        subst hc
        clear hD htk hol hos hb1 hfs hbk hu hb2 hfs2 hneb
        go_wp2_with fail
        exact ⟨⟨k + 1, hlt, by simp, HE2.out, HB2.out, HO2.out⟩, by simp [intOf]; omega⟩
      · have d0 : decide (0 ≤ b) = false := decide_eq_false h0
        have HU2 := Lib.hid (show Blk (wr.setCell ⟨go, k, none⟩ (.int .i64 b)) w.heap.size 4 (bsC (AU.markU n (bs.take (k + 1)))) by rw [htk, AU.markU_neg (by omega)]; exact HU1.out)
        clear hD htk hol hos hb1 hfs hbk hneb
        go_wp2_with fail
        exact ⟨⟨k + 1, hlt, by simp, HE1.out, HU2.out, HB1.out⟩, by simp [intOf]; omega⟩
    · have q0 : ¬ (k : Int) < (bs.length : Int) := by omega
      have hke : k = bs.length := by omega
      subst hke
      have hu := hD.bu
      have ho := hD.bo
      rw [List.take_length] at hu ho
      rw [Nat.sub_self, List.replicate_zero, List.append_nil] at ho
      have HE0 := Lib.hid (show C2Rel w w.heap.size go n bs 0 wr from ⟨hD.be, hu, ho⟩)
      clear hD HD hu ho
      go_wp2_with fail
      go_loopw [8] (fun iv wr => ∃ k : Nat, k ≤ bs.length ∧ iv = .int .i64 (k : Int) ∧ C2Rel w w.heap.size go n bs k wr) (fun iv _ => bs.length - (intOf iv).toNat)
      case atStart => exact ⟨0, Nat.zero_le _, rfl, HE0.out⟩
      case round =>
        clear HE0
        obtain ⟨k, hk, rfl, hD⟩ := hrel
        by_cases hlt : k < bs.length
        · have q1 : (k : Int) < (bs.length : Int) := by omega
          obtain ⟨b, hbk⟩ : ∃ b, bs[k]? = some b := ⟨_, List.getElem?_eq_getElem hlt⟩
          have hdk : bs.drop k = b :: bs.drop (k + 1) := by
            obtain ⟨h1, h2⟩ := List.getElem?_eq_some_iff.1 hbk
            rw [List.drop_eq_getElem_cons h1, h2]
          obtain ⟨hl1, hl2⟩ := AU.st2_len (U := AU.markU n bs) (bs := bs) k hk
          rw [AU.markU_len] at hl1
          have HKEEP := Lib.hid (fun h => AU.st2_keep (U := AU.markU n bs) hbk h)
          have HSOME := Lib.hid (fun f h hf => AU.st2_some (U := AU.markU n bs) (f := f) hbk h hf)
          have HNONE := Lib.hid (fun h hf => AU.st2_none (U := AU.markU n bs) hbk h hf)
          have hbe := hD.be
          have hbu := hD.bu
          have hbo := hD.bo
          rw [hdk] at hbo
          generalize hst : AU.st2 (AU.markU n bs) bs k = st at *
          obtain ⟨U, O⟩ := st
          simp only at hl1 hl2 hbu hbo HKEEP HSOME HNONE
          have HC0 := Lib.hid (show C3Rel w w.heap.size go n bs k U O b (.int .i64 0) wr from ⟨0, Nat.zero_le _, rfl, hbe, .inl ⟨hbu, hbo, fun d h => by omega⟩⟩)
          clear hD hbk hdk hst hbe hbu hbo
          go_wp2_with fail
          go_loopw [9] (fun iv wx => C3Rel w w.heap.size go n bs k U O b iv wx) (fun iv _ => n + 1 - (intOf iv).toNat)
          case atStart => exact HC0.out
          case round =>
            clear HC0
            obtain ⟨c, hc, rfl, hbe, hcase⟩ := hrel
            have HBE := Lib.hid hbe
            clear hbe
            rcases hcase with ⟨hbu, hbo, hall⟩ | ⟨f, hb0, hfn, rfl, hfirst, hbu, hbo⟩
            · have HBU := Lib.hid hbu
              have HBO := Lib.hid hbo
              have HALL := Lib.hid hall
              have y0 := (hbo.cell k).trans (isC_at (show (O ++ b :: bs.drop (k + 1))[k]? = some b by rw [List.getElem?_append_right (by omega), hl2]; simp))
              have g0 := hbo.frozen k
              have hgl := hbo.lt
              clear hbu hbo hall
              have finK : ∀ (h : ¬ b < 0), Hid (C2Rel w w.heap.size go n bs (k + 1) wr) := fun h => Lib.hid ⟨HBE.out, by rw [HKEEP.out (by omega)]; exact HBU.out, by rw [HKEEP.out (by omega)]; simp only [List.append_assoc, List.singleton_append]; exact HBO.out⟩
              by_cases hcn : c < n
              · have q2 : (c : Int) < (n : Int) := by omega
                by_cases hb0 : b < 0
                · have d0 : decide (b < 0) = true := decide_eq_true hb0
                  obtain ⟨u, hu⟩ : ∃ u, U[c]? = some u := ⟨_, List.getElem?_eq_getElem (by rw [hl1]; exact hcn)⟩
                  have z0 := (HBU.out.cell c).trans (bsC_at hu)
                  have hug := HBU.out.lt
                  cases u with
                  | true =>
                    have HREL := Lib.hid (show C3Rel w w.heap.size go n bs k U O b (.int .i64 ((c : Int) + 1)) wr from ⟨c + 1, hcn, by simp, HBE.out, .inl ⟨HBU.out, HBO.out, fun d hd => by
                      rcases Nat.lt_or_ge d c with h | h
                      · exact HALL.out d h
                      · obtain rfl : d = c := by omega
                        exact hu⟩⟩)
                    clear finK hu
                    go_wp2_with fail
                    exact ⟨HREL.out, by simp [intOf]; omega⟩
                  | false =>
                    have hfs : FxT [3] wr (wr.setCell ⟨go, k, none⟩ (.int .i64 (c : Int))) := (FxT.refl _ wr).set HBO.out (by simp) k _
                    have hb1 := HBO.out.set_ k (.int .i64 (c : Int))
                    rw [isC_set, List.set_append_right _ _ (by omega), hl2, Nat.sub_self, List.set_cons_zero] at hb1
                    have hu1 := HBU.out.fx hfs (by decide)
                    have g1 := hu1.frozen c
                    have z1 := (hu1.cell c).trans (bsC_at hu)
                    have hfs2 : FxT [4] (wr.setCell ⟨go, k, none⟩ (.int .i64 (c : Int))) ((wr.setCell ⟨go, k, none⟩ (.int .i64 (c : Int))).setCell ⟨w.heap.size, c, none⟩ (.bool true)) := (FxT.refl _ _).set hu1 (by simp) c _
                    have hb2 := hu1.set_ c (.bool true)
                    rw [bsC_set] at hb2
                    have HREL := Lib.hid (show C3Rel w w.heap.size go n bs k U O b (.int .i64 ((c : Int) + 1)) ((wr.setCell ⟨go, k, none⟩ (.int .i64 (c : Int))).setCell ⟨w.heap.size, c, none⟩ (.bool true)) from ⟨c + 1, hcn, by simp, (HBE.out.setCell (p := ⟨go, k, none⟩) hgw _).setCell (p := ⟨w.heap.size, c, none⟩) (Nat.le_refl _) _, .inr ⟨c, hb0, hcn, rfl, AU.firstF_some HALL.out hu, hb2, hb1.fx hfs2 (by decide)⟩⟩)
                    clear finK hu hfs hb1 hu1 hfs2 hb2
                    go_wp2_with fail
                    exact ⟨HREL.out, by simp [intOf]; omega⟩
                · have d0 : decide (b < 0) = false := decide_eq_false hb0
                  have HF := finK hb0
                  clear finK hb0
                  go_wp2_with fail
                  exact ⟨⟨k + 1, hlt, by simp, HF.out⟩, by simp [intOf]; omega⟩
              · have q2 : ¬ (c : Int) < (n : Int) := by omega
                have HF : Hid (C2Rel w w.heap.size go n bs (k + 1) wr) := by
                  by_cases hb0 : b < 0
                  · have hf : AU.firstF U = none := AU.firstF_none (fun d hd => HALL.out d (by omega))
                    exact Lib.hid ⟨HBE.out, by rw [HNONE.out hb0 hf]; exact HBU.out, by rw [HNONE.out hb0 hf]; simp only [List.append_assoc, List.singleton_append]; exact HBO.out⟩
                  · exact finK hb0
                clear finK
                go_wp2_with fail
                exact ⟨⟨k + 1, hlt, by simp, HF.out⟩, by simp [intOf]; omega⟩
            · have y0 := (hbo.cell k).trans (isC_at (show (O ++ (f : Int) :: bs.drop (k + 1))[k]? = some (f : Int) by rw [List.getElem?_append_right (by omega), hl2]; simp))
              have hgl := hbo.lt
              have d0 : decide ((f : Int) < 0) = false := decide_eq_false (by omega)
              have HF : Hid (C2Rel w w.heap.size go n bs (k + 1) wr) := Lib.hid ⟨HBE.out, by rw [HSOME.out f hb0 hfirst]; exact hbu, by rw [HSOME.out f hb0 hfirst]; simp only [List.append_assoc, List.singleton_append]; exact hbo⟩
              clear hbu hbo hfirst hb0
              by_cases hcn : f + 1 < n
              · have q2 : ((f + 1 : Nat) : Int) < (n : Int) := by omega
                have q3 : (f : Int) + 1 < (n : Int) := by omega
                go_wp2_with fail
                exact ⟨⟨k + 1, hlt, by simp, HF.out⟩, by simp [intOf]; omega⟩
              · have q2 : ¬ ((f + 1 : Nat) : Int) < (n : Int) := by omega
                have q3 : ¬ (f : Int) + 1 < (n : Int) := by omega
                go_wp2_with fail
                exact ⟨⟨k + 1, hlt, by simp, HF.out⟩, by simp [intOf]; omega⟩
        · have q1 : ¬ (k : Int) < (bs.length : Int) := by omega
          have hke : k = bs.length := by omega
          subst hke
          have hbo := hD.bo
          rw [List.drop_length, List.append_nil] at hbo
          have HBO := Lib.hid hbo
          have HBE := Lib.hid hD.be
          clear hD hbo
          go_wp2_with fail
          go_ret
          exact ⟨go, rfl, HBO.out, hgw, HBE.out⟩
end
end Go.Proofs.Ytehdgdlndlamjaa
