/- The contracts of ast.isTask and ast.Valid. -/
import Derived.Test.YtfakdbnfpdalhaaGreatDoorValE
namespace Go.Proofs.YtfakdbnfpdalhaaGreatDoor
open Go.RowKit Go.Maps
open PP (Tree ArrD TaskD ProgD)
def VarRel (vs : List (List UInt8)) (w : World) (i : Value) (wr : World) : Prop := ∃ j : Nat, j ≤ vs.length ∧ i = .int .i64 (j : Int) ∧ (∀ l t, l < j → vs[l]? = some t → PL.isName t = true) ∧ Below w.heap.size w wr
section
set_option maxHeartbeats 8000000
set_option maxRecDepth 100000
theorem isTask_any {w : World} {nm : List UInt8} {per : Int} {vs : List (List UInt8)} {ar : List ArrD} {k : Nat} {num : Int} {bn : List UInt8} {kids : List Tree} {vA aA kA : Option Addr} {vc ac kc nv na nk : Nat}
    (hnv : vs.length = nv) (hna : ar.length = na) (hnk : kids.length = nk) (rv : Row w vA (strCells vs)) (ra : Row w aA (arrCells ar)) (ks : KidsC w (fun _ => True) kA kids) (lv : nv ≤ 65536) (la : na ≤ 65536) (hsz : PP.sizeL kids ≤ 1000000)
    (hg : SignsIs w) (hm1 : nm.length ≤ 65536) (hm2 : ∀ v ∈ vs, v.length ≤ 65536) (hm3 : NmArr ar) (hm4 : bn.length ≤ 65536) (hm5 : PP.nmL kids = true) :
    Calls Tryz.prog 62 #[.agg #[.string ⟨nm.toArray⟩, .int .i64 per, .slice vA nv vc, .slice aA na ac, .int .u8 (k : Int), .int .i64 num, .string ⟨bn.toArray⟩, .slice kA nk kc]] w fun e w' => e = .returned (.bool (PP.okTask ⟨nm, per, vs, ar, .node k num bn kids⟩)) ∧ Below w.heap.size w w' := by
  have hnot : ∀ (x : Bool) (w : World), (Op.unary .not (.bool x)).run Tryz.prog w = .ok (.bool (!x)) w := fun _ _ => rfl
  have hb : Below w.heap.size w (w.alloc (.cells #[.string ⟨nm.toArray⟩, .int .i64 per, .slice vA nv vc, .slice aA na ac, .int .u8 (k : Int), .int .i64 num, .string ⟨bn.toArray⟩, .slice kA nk kc] 58)) := (Below.refl _ _).alloc (Nat.le_refl _) _
  have HNM := Lib.hid (show Calls Tryz.prog 110 #[.string ⟨nm.toArray⟩] _ fun e w' => e = .returned (.bool (PL.isName nm)) ∧ Below _ _ w' from name_any ⟨nm.toArray⟩ _ (hg.below hb hg.pos) (by show nm.toArray.size ≤ maxLen; rw [List.size_toArray]; unfold maxLen; omega))
  have HK := Lib.hid (Blk.new w 58 #[.string ⟨nm.toArray⟩, .int .i64 per, .slice vA nv vc, .slice aA na ac, .int .u8 (k : Int), .int .i64 num, .string ⟨bn.toArray⟩, .slice kA nk kc])
  have heq : PP.okTask ⟨nm, per, vs, ar, .node k num bn kids⟩ = (PL.isName nm && !decide (per < 1) && !decide (1000 < per) && decide (vs.length ≤ 12) && decide (ar.length ≤ 4) && ar.all PP.okArr && vs.all PL.isName && !PP.large (.node k num bn kids) && PP.okT (.node k num bn kids) 98) := rfl
  have HEQ := Lib.hid heq
  have HB := Lib.hid hb
  have HG := Lib.hid hg
  have HRV := Lib.hid rv
  have HRA := Lib.hid ra
  have HKS := Lib.hid ks
  have HNV := Lib.hid hnv
  have HNA := Lib.hid hna
  have HNK := Lib.hid hnk
  have HM2 := Lib.hid hm2
  have HM3 := Lib.hid hm3
  have HM5 := Lib.hid hm5
  generalize PP.okTask ⟨nm, per, vs, ar, .node k num bn kids⟩ = R at *
  clear heq hb hg rv ra ks hnv hna hnk hm2 hm3 hm5
  go_enter Tryz.func62, Tryz.ntmps62
  go_wp2_with fail
  refine HNM.out.mono ?_
  rintro e w1 ⟨rfl, hb1⟩
  have HK1 := Lib.hid (Blk.below HK.out hb1)
  have HB1 := Lib.hid (HB.out.trans (hb1.mono HB.out.size))
  obtain ⟨x0, x1, x2, x3, x4, x5, x6, x7⟩ := HK1.out.eight
  have hl := HK1.out.lt
  clear hb1 HNM
  cases hin : PL.isName nm with
  | false =>
    have HR := Lib.hid (show R = false by rw [HEQ.out, hin]; simp)
    go_wp2_with fail
    go_ret
    exact ⟨by rw [HR.out]; rfl, HB1.out⟩
  | true =>
  by_cases c1 : per < 1
  · have y1 : decide (per < 1) = true := by simpa using c1
    have HR := Lib.hid (show R = false by rw [HEQ.out, y1]; simp)
    go_wp2_with fail
    go_ret
    exact ⟨by rw [HR.out]; rfl, HB1.out⟩
  have y1 : decide (per < 1) = false := by simpa using c1
  by_cases c2 : 1000 < per
  · have y2 : decide (1000 < per) = true := by simpa using c2
    have HR := Lib.hid (show R = false by rw [HEQ.out, y2]; simp)
    go_wp2_with fail
    go_ret
    exact ⟨by rw [HR.out]; rfl, HB1.out⟩
  have y2 : decide (1000 < per) = false := by simpa using c2
  by_cases c3 : 12 < nv
  · have y3 : decide ((12 : Int) < (nv : Int)) = true := by simp; omega
    have y3' : decide (12 < nv) = true := by simpa using c3
    have HR := Lib.hid (show R = false by rw [HEQ.out, HNV.out, show decide (nv ≤ 12) = false from by simp; omega]; simp)
    go_wp2_with fail
    go_ret
    exact ⟨by rw [HR.out]; rfl, HB1.out⟩
  have y3 : decide ((12 : Int) < (nv : Int)) = false := by simp; omega
  have y3' : decide (12 < nv) = false := by simpa using c3
  by_cases c4 : 4 < na
  · have y4 : decide ((4 : Int) < (na : Int)) = true := by simp; omega
    have y4' : decide (4 < na) = true := by simpa using c4
    have HR := Lib.hid (show R = false by rw [HEQ.out, HNA.out, show decide (na ≤ 4) = false from by simp; omega]; simp)
    go_wp2_with fail
    go_ret
    exact ⟨by rw [HR.out]; rfl, HB1.out⟩
  have y4 : decide ((4 : Int) < (na : Int)) = false := by simp; omega
  have y4' : decide (4 < na) = false := by simpa using c4
  have HEQ2 := Lib.hid (show R = (ar.all PP.okArr && vs.all PL.isName && !PP.large (.node k num bn kids) && PP.okT (.node k num bn kids) 98) by
    rw [HEQ.out, hin, y1, y2, HNV.out, HNA.out, show decide (nv ≤ 12) = true from by simp; omega, show decide (na ≤ 4) = true from by simp; omega]; simp)
  have HAR := Lib.hid (areArrays_any (c := ac) HNA.out (HRA.out.below HB1.out) (by omega) (HG.out.below HB1.out HG.out.pos) HM3.out)
  clear HEQ
  go_wp2_with fail
  refine HAR.out.mono ?_
  rintro e w2 ⟨rfl, hb2⟩
  have HK2 := Lib.hid (Blk.below HK1.out hb2)
  have HB2 := Lib.hid (HB1.out.trans (hb2.mono HB1.out.size))
  clear x0 x1 x2 x3 x4 x5 x6 x7 hl hb2 HAR
  obtain ⟨x0, x1, x2, x3, x4, x5, x6, x7⟩ := HK2.out.eight
  have hl := HK2.out.lt
  cases har : ar.all PP.okArr with
  | false =>
    have HR := Lib.hid (show R = false by rw [HEQ2.out, har]; simp)
    go_wp2_with fail
    go_ret
    exact ⟨by rw [HR.out]; rfl, HB2.out⟩
  | true =>
  have HEQ3 := Lib.hid (show R = (vs.all PL.isName && !PP.large (.node k num bn kids) && PP.okT (.node k num bn kids) 98) by rw [HEQ2.out, har]; simp)
  clear HEQ2 har
  go_wp2_with fail
  go_loopw [39] (fun i wr => VarRel vs w2 i wr) (fun i _ => nv - (intOf i).toNat)
  case atStart => exact ⟨0, Nat.zero_le _, rfl, fun l _ h => by omega, Below.refl _ _⟩
  case round =>
    obtain ⟨j, hj, rfl, hall, hbr⟩ := hrel
    rw [HNV.out] at hj
    have hsr := hbr.size
    by_cases hlt : j < nv
    · have hne : vs ≠ [] := by intro e; have := HNV.out; rw [e] at this; simp at this; omega
      obtain ⟨b, o, rfl, hb, hc⟩ := (HRV.out.below HB2.out).str hne
      obtain ⟨a, ha⟩ : ∃ a, vs[j]? = some a := ⟨_, List.getElem?_eq_getElem (by rw [HNV.out]; exact hlt)⟩
      have d0 := (hbr.cell (p := ⟨b, o + j, none⟩) hb).trans (hc j a ha)
      have hgv : b < wr.heap.size := by omega
      have hbW := HB2.out.trans (hbr.mono HB2.out.size)
      have hlm := HM2.out a (List.mem_of_getElem? ha)
      have hcall : Calls Tryz.prog 110 #[.string ⟨a.toArray⟩] wr fun e w' => e = .returned (.bool (PL.isName a)) ∧ Below wr.heap.size wr w' := name_any ⟨a.toArray⟩ wr (HG.out.below hbW HG.out.pos) (by show a.toArray.size ≤ maxLen; rw [List.size_toArray]; unfold maxLen; omega)
      have HGOOD := Lib.hid (show PL.isName a = true → ∀ l t, l < j + 1 → vs[l]? = some t → PL.isName t = true by
        intro he l t hll h1
        rcases Nat.lt_or_ge l j with h | h
        · exact hall l t h h1
        · obtain rfl : l = j := by omega
          rw [ha] at h1
          injection h1 with h1
          subst h1; exact he)
      have HBAD := Lib.hid (fun he : PL.isName a = false => all_bad (p := PL.isName) ha he)
      have p1 : (0 : Int) ≤ (j : Int) := by omega
      have p2 : (j : Int) < (nv : Int) := by omega
      clear hall ha hc hne x0 x1 x2 x3 x4 x5 x6 x7
      cases he : PL.isName a with
      | true =>
        rw [he] at hcall
        have HC := Lib.hid hcall
        have HE2 := Lib.hid he
        clear hcall he
        go_wp2_with fail
        refine HC.out.mono ?_
        rintro e w3 ⟨rfl, hb3⟩
        have HB3 := Lib.hid (hbr.trans (hb3.mono hsr))
        clear hb3 d0 HC
        go_wp2_with fail
        go_roundw
        case rel => exact ⟨j + 1, by rw [HNV.out]; omega, by go_num, HGOOD.out HE2.out, HB3.out⟩
        case measure => simp [intOf]; omega
      | false =>
        rw [he] at hcall
        have HC := Lib.hid hcall
        have HR := Lib.hid (show R = false by rw [HEQ3.out, HBAD.out he]; simp)
        clear hcall he
        go_wp2_with fail
        refine HC.out.mono ?_
        rintro e w3 ⟨rfl, hb3⟩
        have HB3 := Lib.hid (hbW.trans (hb3.mono hbW.size))
        clear hb3 d0 HC
        go_wp2_with fail
        go_ret
        exact ⟨by rw [HR.out]; rfl, HB3.out⟩
    · have HALL := Lib.hid (all_at (p := PL.isName) (l := vs) (fun i t h1 => hall i t (by have := (List.getElem?_eq_some_iff.1 h1).1; have := HNV.out; omega) h1))
      have HEQ4 := Lib.hid (show R = (!PP.large (.node k num bn kids) && PP.okT (.node k num bn kids) 98) by rw [HEQ3.out, HALL.out]; simp)
      have HBR := Lib.hid (HB2.out.trans (hbr.mono HB2.out.size))
      have HKR := Lib.hid (Blk.below HK2.out hbr)
      clear hall hbr x0 x1 x2 x3 x4 x5 x6 x7 HALL HEQ3
      obtain ⟨x0, x1, x2, x3, x4, x5, x6, x7⟩ := HKR.out.eight
      have hlr := HKR.out.lt
      have hks := (HKS.out.weak (Z' := (· < w.heap.size)) (fun g _ h => h)).keep (⟨HBR.out.size, fun g _ hg => HBR.out.block g hg⟩ : Keep (· < w.heap.size) w wr)
      have hsm := small_kids hks (wr.alloc (.cells #[.int .i64 400] 3)) ((Keep.refl _ _).alloc _) wr.heap.size (by have := HBR.out.size; show ¬ (wr.heap.size < w.heap.size); omega) 400 (Blk.new _ _ _) 16 k num bn kc hsz (by omega) (by omega) (by omega)
      rw [HNK.out] at hsm
      have HSM := Lib.hid hsm
      have HBA := Lib.hid (HBR.out.alloc HBR.out.size (.cells #[.int .i64 400] 3))
      clear hsm hks
      go_wp2_with fail
      refine HSM.out.mono ?_
      rintro e w4 ⟨L', rfl, hf4, hb4, _⟩
      have HB4 := Lib.hid (below_fr HBA.out hf4 HBR.out.size HBA.out.size)
      have HK4 := Lib.hid ((HKR.out.alloc (.cells #[.int .i64 400] 3)).fr hf4 (by omega))
      clear x0 x1 x2 x3 x4 x5 x6 x7 hf4 hb4 HSM
      obtain ⟨x0, x1, x2, x3, x4, x5, x6, x7⟩ := HK4.out.eight
      have hl4 := HK4.out.lt
      have hlarge : PP.large (.node k num bn kids) = (decide (16 < (Tree.node k num bn kids).depth) || decide (400 < (Tree.node k num bn kids).size) || decide (4 < (Tree.node k num bn kids).nest)) := rfl
      have hks4 := HKS.out.keep (⟨HB4.out.size, fun g _ hg => HB4.out.block g hg⟩ : Keep (fun _ => True) w w4)
      have hne4 := nest_kids hks4 w4 (Keep.refl _ _) k num bn kc hsz
      rw [HNK.out] at hne4
      have hnsz := PP.nest_size (Tree.node k num bn kids)
      have hnb : (Tree.node k num bn kids).nest ≤ 1000001 := by simp only [PP.Tree.size] at hnsz; omega
      have HNE := Lib.hid hne4
      have HLG := Lib.hid hlarge
      clear hne4 hks4 hlarge hnsz
      generalize hTT : Tree.node k num bn kids = T at *
      have HTT := Lib.hid hTT
      clear hTT
      by_cases hs : T.depth ≤ 16 ∧ (T.size : Int) ≤ 400
      · have z1 : (decide (T.depth ≤ 16) && decide ((T.size : Int) ≤ 400)) = true := by simp; exact ⟨hs.1, by omega⟩
        rw [z1]
        have HLG2 := Lib.hid (show PP.large T = decide (4 < T.nest) by rw [HLG.out, show decide (16 < T.depth) = false from by simp; omega, show decide (400 < T.size) = false from by simp; omega]; rfl)
        clear z1 hs HLG
        go_wp2_with fail
        refine HNE.out.mono ?_
        rintro e w5 ⟨rfl, hb5⟩
        have HB5 := Lib.hid (HB4.out.trans (hb5.mono HB4.out.size))
        have HK5 := Lib.hid (Blk.below HK4.out hb5)
        clear x0 x1 x2 x3 x4 x5 x6 x7 hb5 HNE
        obtain ⟨x0, x1, x2, x3, x4, x5, x6, x7⟩ := HK5.out.eight
        have hl5 := HK5.out.lt
        have HVB := Lib.hid (isBlock_of (W := w5) (k := k) (num := num) (nm := bn) (A := kA) (n := nk) (c := kc) (r := PP.okT T 98) (fun W' h' => by
          have hbW := HB5.out.trans (h'.mono HB5.out.size)
          have := isValid_upto (PP.sizeL kids) kids (Nat.le_refl _) W' (fun _ => True) kA (HKS.out.keep ⟨hbW.size, fun g _ hg => hbW.block g hg⟩) (HG.out.below hbW HG.out.pos) k num bn kc 98 hm4 HM5.out (by unfold CatOk; omega) hsz
          rw [HNK.out, HTT.out] at this
          exact this))
        generalize T.nest = M at *
        by_cases hM : M ≤ 4
        · have z1 : decide ((M : Int) ≤ 4) = true := by simp; omega
          have z2 : decide (M ≤ 4) = true := by simpa using hM
          have HR := Lib.hid (show R = PP.okT T 98 by rw [HEQ4.out, HLG2.out, show decide (4 < M) = false from by simp; omega]; rfl)
          go_wp2_with fail
          refine HVB.out.mono ?_
          rintro e w6 ⟨rfl, hb6⟩
          have HB6 := Lib.hid (HB5.out.trans (hb6.mono HB5.out.size))
          clear x0 x1 x2 x3 x4 x5 x6 x7 hb6
          go_wp2_with fail
          go_ret
          exact ⟨by rw [HR.out]; rfl, HB6.out⟩
        · have z1 : decide ((M : Int) ≤ 4) = false := by simp; omega
          have z2 : decide (M ≤ 4) = false := by simpa using hM
          have HR := Lib.hid (show R = false by rw [HEQ4.out, HLG2.out, show decide (4 < M) = true from by simp; omega]; rfl)
          go_wp2_with fail
          go_ret
          exact ⟨by rw [HR.out]; rfl, HB5.out⟩
      · have z1 : (decide (T.depth ≤ 16) && decide ((T.size : Int) ≤ 400)) = false := by rw [Bool.eq_false_iff]; intro h; simp at h; exact hs ⟨h.1, by omega⟩
        rw [z1]
        have HR := Lib.hid (show R = false by
          rw [HEQ4.out, HLG.out]
          by_cases h1 : T.depth ≤ 16
          · rw [show decide (400 < T.size) = true from by simp; rcases Nat.lt_or_ge 400 T.size with h | h; exact h; exact absurd ⟨h1, by omega⟩ hs]; simp
          · rw [show decide (16 < T.depth) = true from by simp; omega]; simp)
        clear z1 hs HLG
        go_wp2_with fail
        go_ret
        exact ⟨by rw [HR.out]; rfl, HB4.out⟩
end
end Go.Proofs.YtfakdbnfpdalhaaGreatDoor
