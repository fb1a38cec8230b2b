/- The contract of ast.Valid. -/
import Derived.Test.YtfakdbnfpdalhaaGreatDoorValF
namespace Go.Proofs.YtfakdbnfpdalhaaGreatDoor
open Go.RowKit Go.Maps
open PP (Tree ArrD TaskD ProgD)
def TaskRel (ts : List TaskD) (w : World) (i : Value) (wr : World) : Prop := ∃ j : Nat, j ≤ ts.length ∧ i = .int .i64 (j : Int) ∧ (∀ l t, l < j → ts[l]? = some t → PP.okTask t = true) ∧ Below w.heap.size w wr
structure NmTask (t : TaskD) : Prop where
  n : t.name.length ≤ 65536
  v : ∀ v ∈ t.vars, v.length ≤ 65536
  a : NmArr t.arrays
  b : PP.nmT t.body = true
  s : t.body.size ≤ 1000000
section
set_option maxHeartbeats 8000000
set_option maxRecDepth 100000
theorem valid_any {p : ProgD} {A T : Option Addr} {c d na nt : Nat} {w : World} (hna : p.shared.length = na) (hnt : p.tasks.length = nt) (h : ProgR w A T p) (hg : SignsIs w) (hm : NmArr p.shared) (hm2 : ∀ t ∈ p.tasks, NmTask t) :
    Calls Tryz.prog 25 #[.agg #[.slice A na c, .slice T nt d]] w fun e w' => e = .returned (.bool (PP.okProg p)) ∧ Below w.heap.size w w' := by
  have hnot : ∀ (x : Bool) (w : World), (Op.unary .not (.bool x)).run Tryz.prog w = .ok (.bool (!x)) w := fun _ _ => rfl
  have hb : Below w.heap.size w (w.alloc (.cells #[.slice A na c, .slice T nt d] 26)) := (Below.refl _ _).alloc (Nat.le_refl _) _
  have lna : na ≤ 65536 := by rw [← hna]; exact h.la
  have lnt : nt ≤ 65536 := by rw [← hnt]; exact h.lt
  have HAR := Lib.hid (areArrays_any (c := c) hna (h.ra.below hb) (by omega) (hg.below hb hg.pos) hm)
  have HK := Lib.hid (Blk.new w 26 #[.slice A na c, .slice T nt d])
  have HEQ := Lib.hid (show PP.okProg p = (decide (p.shared.length ≤ 4) && decide (p.tasks.length ≤ 8) && p.shared.all PP.okArr && p.tasks.all PP.okTask) from rfl)
  have HB := Lib.hid hb
  have HG := Lib.hid hg
  have HRT := Lib.hid h.rt
  have HNA := Lib.hid hna
  have HNT := Lib.hid hnt
  have HM2 := Lib.hid hm2
  generalize PP.okProg p = R at *
  clear hb hg h hna hnt hm hm2
  by_cases c1 : 4 < na
  · have y1 : decide ((4 : Int) < (na : Int)) = true := by simp; omega
    have y1' : decide (4 < na) = true := by simpa using c1
    have HR := Lib.hid (show R = false by rw [HEQ.out, HNA.out, show decide (na ≤ 4) = false from by simp; omega]; simp)
    go_enter Tryz.func25, Tryz.ntmps25
    go_wp2_with fail
    go_ret
    exact ⟨by rw [HR.out]; rfl, HB.out⟩
  have y1 : decide ((4 : Int) < (na : Int)) = false := by simp; omega
  have y1' : decide (4 < na) = false := by simpa using c1
  by_cases c2 : 8 < nt
  · have y2 : decide ((8 : Int) < (nt : Int)) = true := by simp; omega
    have y2' : decide (8 < nt) = true := by simpa using c2
    have HR := Lib.hid (show R = false by rw [HEQ.out, HNT.out, show decide (nt ≤ 8) = false from by simp; omega]; simp)
    go_enter Tryz.func25, Tryz.ntmps25
    go_wp2_with fail
    go_ret
    exact ⟨by rw [HR.out]; rfl, HB.out⟩
  have y2 : decide ((8 : Int) < (nt : Int)) = false := by simp; omega
  have y2' : decide (8 < nt) = false := by simpa using c2
  have HEQ2 := Lib.hid (show R = (p.shared.all PP.okArr && p.tasks.all PP.okTask) by rw [HEQ.out, HNA.out, HNT.out, show decide (na ≤ 4) = true from by simp; omega, show decide (nt ≤ 8) = true from by simp; omega]; simp)
  clear HEQ
  go_enter Tryz.func25, Tryz.ntmps25
  go_wp2_with fail
  refine HAR.out.mono ?_
  rintro e w1 ⟨rfl, hb1⟩
  have HK1 := Lib.hid (Blk.below HK.out hb1)
  have HB1 := Lib.hid (HB.out.trans (hb1.mono HB.out.size))
  have x0 : w1.cell? ⟨w.heap.size, 0, none⟩ = some (.slice A na c) := HK1.out.cell 0
  have x1 : w1.cell? ⟨w.heap.size, 1, none⟩ = some (.slice T nt d) := HK1.out.cell 1
  have hl := HK1.out.lt
  clear hb1 HAR
  cases har : p.shared.all PP.okArr with
  | false =>
    have HR := Lib.hid (show R = false by rw [HEQ2.out, har]; simp)
    go_wp2_with fail
    go_ret
    exact ⟨by rw [HR.out]; rfl, HB1.out⟩
  | true =>
  have HEQ3 := Lib.hid (show R = p.tasks.all PP.okTask by rw [HEQ2.out, har]; simp)
  clear HEQ2 har
  go_wp2_with fail
  go_loopw [24] (fun i wr => TaskRel p.tasks w1 i wr) (fun i _ => nt - (intOf i).toNat)
  case atStart => exact ⟨0, Nat.zero_le _, rfl, fun l _ h => by omega, Below.refl _ _⟩
  case round =>
    obtain ⟨j, hj, rfl, hall, hbr⟩ := hrel
    rw [HNT.out] at hj
    have hsr := hbr.size
    by_cases hlt : j < nt
    · have hne : p.tasks ≠ [] := by intro e; have := HNT.out; rw [e] at this; simp at this; omega
      obtain ⟨b, o, rfl, hb, hc⟩ := (HRT.out.below HB1.out) hne
      obtain ⟨t, ht⟩ : ∃ t, p.tasks[j]? = some t := ⟨_, List.getElem?_eq_getElem (by rw [HNT.out]; exact hlt)⟩
      obtain ⟨vA, vc, aA, ac, k, num, nm, kids, kA, kc, T0⟩ := hc j t ht
      have TT := T0.below hbr hb
      have NM := HM2.out t (List.mem_of_getElem? ht)
      have hbd := T0.bd
      have hbW := HB1.out.trans (hbr.mono HB1.out.size)
      have hgv : b < wr.heap.size := by omega
      have hb2 : Below wr.heap.size wr (wr.alloc (.cells #[.string ⟨t.name.toArray⟩, .int .i64 t.period, .slice vA t.vars.length vc, .slice aA t.arrays.length ac, .int .u8 (k : Int), .int .i64 num, .string ⟨nm.toArray⟩, .slice kA kids.length kc] 58)) := (Below.refl _ _).alloc (Nat.le_refl _) _
      have hbW2 := hbW.trans (hb2.mono hbW.size)
      have nb := NM.b
      have ns := NM.s
      rw [hbd] at nb ns
      simp only [PP.nmT, Bool.and_eq_true, decide_eq_true_iff] at nb
      simp only [PP.Tree.size] at ns
      have hcall := isTask_any (nm := t.name) (per := t.period) (num := num) (vc := vc) (ac := ac) (kc := kc) (k := k) (bn := nm) rfl rfl rfl (TT.rv.below hb2) (TT.ra.below hb2) (TT.ks.keep ⟨hb2.size, fun g _ hg => hb2.block g hg⟩) TT.lv TT.la (by omega) (HG.out.below hbW2 HG.out.pos) NM.n NM.v NM.a nb.1 nb.2
      rw [show PP.okTask ⟨t.name, t.period, t.vars, t.arrays, .node k num nm kids⟩ = PP.okTask t from by rw [← hbd]] at hcall
      have HGOOD := Lib.hid (show PP.okTask t = true → ∀ l u, l < j + 1 → p.tasks[l]? = some u → PP.okTask u = true by
        intro he l u hll h1
        rcases Nat.lt_or_ge l j with h | h
        · exact hall l u h h1
        · obtain rfl : l = j := by omega
          rw [ht] at h1
          injection h1 with h1
          subst h1; exact he)
      have HBAD := Lib.hid (fun he : PP.okTask t = false => all_bad (p := PP.okTask) ht he)
      have lv := TT.lv
      have la := TT.la
      have z0 := TT.c0
      have z1 := TT.c1
      have z2 := TT.c2
      have z3 := TT.c3
      have z4 := TT.c4
      have z5 := TT.c5
      have z6 := TT.c6
      have z7 := TT.c7
      have p1 : (0 : Int) ≤ (j : Int) := by omega
      have p2 : (j : Int) < (nt : Int) := by omega
      clear hall hc hne x0 x1 TT T0 NM nb ns hb2 hbW2 ht hbd
      cases he : PP.okTask t with
      | true =>
        rw [he] at hcall
        have HC := Lib.hid hcall
        have HE2 := Lib.hid he
        clear hcall he
        go_wp2_with fail
        refine HC.out.mono ?_
        rintro e w3 ⟨rfl, hb3⟩
        have HB3 := Lib.hid (hbr.trans ((((Below.refl wr.heap.size wr).alloc (Nat.le_refl _) _).trans (hb3.mono (by simp))).mono hsr))
        clear hb3 z0 z1 z2 z3 z4 z5 z6 z7 HC
        go_wp2_with fail
        go_roundw
        case rel => exact ⟨j + 1, by rw [HNT.out]; omega, by go_num, HGOOD.out HE2.out, HB3.out⟩
        case measure => simp [intOf]; omega
      | false =>
        rw [he] at hcall
        have HC := Lib.hid hcall
        have HR := Lib.hid (show R = false by rw [HEQ3.out, HBAD.out he])
        clear hcall he
        go_wp2_with fail
        refine HC.out.mono ?_
        rintro e w3 ⟨rfl, hb3⟩
        have HB3 := Lib.hid (hbW.trans ((((Below.refl wr.heap.size wr).alloc (Nat.le_refl _) _).trans (hb3.mono (by simp))).mono hbW.size))
        clear hb3 z0 z1 z2 z3 z4 z5 z6 z7 HC
        go_wp2_with fail
        go_ret
        exact ⟨by rw [HR.out]; rfl, HB3.out⟩
    · have HR := Lib.hid (show R = true by rw [HEQ3.out]; exact all_at (p := PP.okTask) (fun i t h1 => hall i t (by have := (List.getElem?_eq_some_iff.1 h1).1; have := HNT.out; omega) h1))
      clear hall
      go_wp2_with fail
      go_ret
      exact ⟨by rw [HR.out]; rfl, HB1.out.trans (hbr.mono HB1.out.size)⟩
end
end Go.Proofs.YtfakdbnfpdalhaaGreatDoor
