/- The contract of the printer's Program at a valid program. -/
import Derived.Test.YtfakdbnfpdalhaaGreatDoorPrI
namespace Go.Proofs.YtfakdbnfpdalhaaGreatDoor
open Go.RowKit
open PP (Tree ArrD TaskD ProgD)
theorem fm_take {α : Type} {l : List α} {j : Nat} {x : α} (f : α → List UInt8) (h : l[j]? = some x) : (l.take (j + 1)).flatMap f = (l.take j).flatMap f ++ f x := by
  obtain ⟨hk, rfl⟩ := List.getElem?_eq_some_iff.1 h
  rw [List.take_succ_eq_append_getElem hk, List.flatMap_append]; simp
theorem fm_le {α : Type} (l : List α) (f : α → List UInt8) (j : Nat) : ((l.take j).flatMap f).length ≤ (l.flatMap f).length := by
  have h : l.flatMap f = (l.take j).flatMap f ++ (l.drop j).flatMap f := by rw [← List.flatMap_append, List.take_append_drop]
  rw [h]; simp
theorem fm_len {α : Type} (l : List α) (f : α → List UInt8) (K : Nat) (h : ∀ x ∈ l, (f x).length ≤ K) : (l.flatMap f).length ≤ l.length * K := by
  induction l with
  | nil => simp
  | cons a l ih =>
    have h1 := h a (by simp)
    have h2 := ih (fun x hx => h x (by simp [hx]))
    simp only [List.flatMap_cons, List.length_append, List.length_cons, Nat.succ_mul]
    omega
theorem okArr_inv {a : ArrD} (h : PP.okArr a = true) : a.name.length ≤ 12 ∧ 1 ≤ a.len ∧ a.len ≤ 32 := by
  simp only [PP.okArr, Bool.and_eq_true, Bool.not_eq_true', decide_eq_false_iff_not] at h
  exact ⟨PP.isName_len h.1.1, by omega, by omega⟩
structure TaskInv (t : TaskD) : Prop where
  n : t.name.length ≤ 12
  p1 : 1 ≤ t.period
  p2 : t.period ≤ 1000
  v : t.vars.length ≤ 12
  a : t.arrays.length ≤ 4
  av : ∀ a ∈ t.arrays, PP.okArr a = true
  vv : ∀ v ∈ t.vars, v.length ≤ 12
  s : t.body.size ≤ 400
  d : t.body.depth ≤ 16
  b : PP.okT t.body 98 = true
theorem okTask_inv {t : TaskD} (h : PP.okTask t = true) : TaskInv t := by
  simp only [PP.okTask, Bool.and_eq_true, Bool.not_eq_true', decide_eq_false_iff_not, decide_eq_true_iff, List.all_eq_true, PP.large, Bool.or_eq_false_iff] at h
  obtain ⟨⟨⟨⟨⟨⟨⟨⟨h1, h2⟩, h3⟩, h4⟩, h5⟩, h6⟩, h7⟩, h8⟩, h9⟩ := h
  exact ⟨PP.isName_len h1, by omega, by omega, h4, h5, h6, fun v hv => PP.isName_len (h7 v hv), by omega, by omega, h9⟩
structure ProgInv (p : ProgD) : Prop where
  s : p.shared.length ≤ 4
  t : p.tasks.length ≤ 8
  sv : ∀ a ∈ p.shared, PP.okArr a = true
  tv : ∀ t ∈ p.tasks, TaskInv t
theorem okProg_inv {p : ProgD} (h : PP.okProg p = true) : ProgInv p := by
  simp only [PP.okProg, Bool.and_eq_true, decide_eq_true_iff, List.all_eq_true] at h
  exact ⟨h.1.1.1, h.1.1.2, h.1.2, fun t ht => okTask_inv (h.2 t ht)⟩
theorem prArr_len {a : ArrD} (i : Nat) (kw : List UInt8) (h : PP.okArr a = true) (hi : i ≤ 1) (hk : kw.length ≤ 10) : (PP.prArr i kw a).length ≤ 100 := by
  have h1 := (okArr_inv h).1
  have h2 := PP.dec_len a.len.toNat
  simp [PP.prArr, PP.lineP_len, PP.sOpen, PP.sClose]; omega
theorem prTask_len {t : TaskD} (h : TaskInv t) : (PP.prTask t).length ≤ 2000000 := by
  have h1 := h.n
  have h2 := PP.dec_len t.period.toNat
  have h3 := fm_len t.vars PP.prVar 100 (fun v hv => by have := h.vv v hv; simp [PP.prVar, PP.lineP_len, PP.sVar, PP.sSemi]; omega)
  have h4 := fm_len t.arrays (PP.prArr 1 PP.sArray) 100 (fun a ha => prArr_len 1 _ (h.av a ha) (by omega) (by simp [PP.sArray]))
  have h5 : (PP.prB t.body 1).length ≤ 1600000 := by
    have hb := h.b
    have hs := h.s
    have hd := h.d
    cases hbd : t.body with
    | node k num nm kids =>
      rw [hbd] at hb hs hd
      obtain ⟨_, _, _, hl⟩ := PP.okB_inv hb
      simp only [PP.Tree.size, PP.Tree.depth, PP.prB] at hs hd ⊢
      have := (PP.prS_len (PP.sizeL kids)).2 kids 1 (Nat.le_refl _) hl (by omega)
      omega
  have h6 := h.v
  have h7 := h.a
  simp only [PP.prTask, PP.lineP_len, PP.sTask, PP.sPeriod, PP.sOb, PP.sCb, List.flatten_cons, List.flatten_nil, List.length_append, List.length_cons, List.length_nil]
  omega
theorem prP_len {p : ProgD} (h : ProgInv p) : (PP.prP p).length ≤ 100000000 := by
  have h1 := fm_len p.shared (PP.prArr 0 PP.sShared) 100 (fun a ha => prArr_len 0 _ (h.sv a ha) (by omega) (by simp [PP.sShared]))
  have h2 := fm_len p.tasks PP.prTask 2000000 (fun t ht => prTask_len (h.tv t ht))
  have h3 := h.s
  have h4 := h.t
  simp only [PP.prP, List.length_append]
  omega
theorem Blk.pair {w : World} {g : Nat} {t : TypeId} {a b : Value} (h : Blk w g t #[a, b]) : w.cell? ⟨g, 0, none⟩ = some a ∧ w.cell? ⟨g, 1, none⟩ = some b := ⟨h.cell 0, h.cell 1⟩
theorem Blk.cells8 {w : World} {g : Nat} {t : TypeId} {a b c d e f x y : Value} (h : Blk w g t #[a, b, c, d, e, f, x, y]) : (w.cell? ⟨g, 0, none⟩ = some a ∧ w.cell? ⟨g, 1, none⟩ = some b) ∧ (w.cell? ⟨g, 2, none⟩ = some c ∧ w.cell? ⟨g, 3, none⟩ = some d) ∧ w.cell? ⟨g, 4, none⟩ = some e ∧ w.cell? ⟨g, 5, none⟩ = some f ∧ w.cell? ⟨g, 6, none⟩ = some x ∧ w.cell? ⟨g, 7, none⟩ = some y := ⟨⟨h.cell 0, h.cell 1⟩, ⟨h.cell 2, h.cell 3⟩, h.cell 4, h.cell 5, h.cell 6, h.cell 7⟩
section
set_option maxHeartbeats 8000000
set_option maxRecDepth 100000
theorem printProg_ok {p : ProgD} {A T : Option Addr} {c d na nt : Nat} {w : World} (hna : p.shared.length = na) (hnt : p.tasks.length = nt) (h : ProgR w A T p) (ho : OpsIs w) (hq : PowIs w) (hg : SignsIs w) (hm : NmArr p.shared) (hm2 : ∀ t ∈ p.tasks, NmTask t) (hok : PP.okProg p = true) :
    Calls Tryz.prog 26 #[.agg #[.slice A na c, .slice T nt d]] w fun e w' => e = .returned (.tuple #[.string ⟨(PP.prP p).toArray⟩, .int .i64 0]) ∧ Below w.heap.size w w' := by
  have hnot : ∀ (x : Bool) (w : World), (Op.unary .not (.bool x)).run Tryz.prog w = .ok (.bool (!x)) w := fun _ _ => rfl
  have hb1 : Below w.heap.size w (w.alloc (.cells #[.slice A na c, .slice T nt d] 26)) := (Below.refl _ _).alloc (Nat.le_refl _) _
  have hblk := Blk.new w 26 #[.slice A na c, .slice T nt d]
  have hv := valid_any (c := c) (d := d) hna hnt (h.below hb1) (hg.belowS hb1) hm hm2
  rw [hok] at hv
  have HV := Lib.hid hv
  have HB1 := Lib.hid hb1
  have HBK := Lib.hid hblk
  have HA := Lib.hid h
  have HO := Lib.hid ho
  have HQW := Lib.hid hq
  have HI := Lib.hid (okProg_inv hok)
  have HNA := Lib.hid hna
  have HNT := Lib.hid hnt
  have hna4 : na ≤ 4 := by rw [← hna]; exact HI.out.s
  have hnt8 : nt ≤ 8 := by rw [← hnt]; exact HI.out.t
  have hlen := prP_len HI.out
  have HSP := Lib.hid (show PP.prP p = p.shared.flatMap (PP.prArr 0 PP.sShared) ++ p.tasks.flatMap PP.prTask from rfl)
  rw [HSP.out, List.length_append] at hlen
  clear h hb1 hblk hv hok hm hm2 hg ho hq hna hnt
  go_enter Tryz.func26, Tryz.ntmps26
  go_wp2_with fail
  refine HV.out.mono ?_
  rintro e w2 ⟨rfl, hb2⟩
  have HB2 := Lib.hid (HB1.out.trans (hb2.mono HB1.out.size))
  have hbk2 := Blk.below HBK.out hb2
  obtain ⟨x0, x1⟩ := hbk2.pair
  have hlt := hbk2.lt
  have hBB : w.heap.size ≤ w2.heap.size := HB2.out.size
  have H2 := Lib.hid (HA.out.below HB2.out)
  have h0 := PInv.fresh (HO.out.below HB2.out) (HQW.out.below HB2.out HQW.out.lt) rfl
  have hb3 : Below w2.heap.size w2 (w2.alloc (.cells #[.pointer none, .slice none 0 0, .int .i64 0] 89)) := (Below.refl _ _).alloc (Nat.le_refl _) _
  have HI0 := Lib.hid h0
  have HB3 := Lib.hid hb3
  have HX0 := Lib.hid x0
  have HX1 := Lib.hid x1
  clear hb2 hbk2 h0 hb3 HBK HV
  go_wp2_with fail
  clear x0 x1
  generalize w2.alloc (.cells #[.pointer none, .slice none 0 0, .int .i64 0] 89) = w3 at *
  go_loopw [19] (fun i wr => ∃ j : Nat, j ≤ na ∧ i = .int .i64 (j : Int) ∧ PInv w3 w2.heap.size w2.heap.size ((p.shared.take j).flatMap (PP.prArr 0 PP.sShared)) ((0 : Nat) : Int) [] wr) (fun i _ => na - (intOf i).toNat)
  case atStart => exact ⟨0, Nat.zero_le _, rfl, by simpa using HI0.out⟩
  case round =>
    obtain ⟨j, hj, rfl, hr⟩ := hrel
    have hbw := HB3.out.trans hr.be
    by_cases hjl : j < na
    · have hne : p.shared ≠ [] := by intro e; have := HNA.out; rw [e] at this; simp at this; omega
      obtain ⟨g, o, rfl, hgl, hat⟩ := Row.arr (H2.out.ra) hne
      obtain ⟨a, ha⟩ : ∃ a, p.shared[j]? = some a := ⟨_, List.getElem?_eq_getElem (by have := HNA.out; omega)⟩
      obtain ⟨y0, y1⟩ := hat j a ha
      have d0 := (hbw.cell (p := ⟨g, o + j * 2, none⟩) hgl).trans y0
      have d1 := (hbw.cell (p := ⟨g, o + j * 2 + 1, none⟩) hgl).trans y1
      have hgv : g < wr.heap.size := Nat.lt_of_lt_of_le hgl hbw.size
      have hle := fm_le p.shared (PP.prArr 0 PP.sShared) (j + 1)
      rw [fm_take _ ha, List.length_append] at hle
      have HT := Lib.hid (fm_take (PP.prArr 0 PP.sShared) ha)
      have hav := okArr_inv (HI.out.sv a (List.mem_of_getElem? ha))
      have hn0 : 0 ≤ a.len := by omega
      have hn1 : a.len ≤ 2147483647 := by omega
      have hi := hr.alloc #[.string ⟨a.name.toArray⟩, .int .i64 a.len] 52 (by decide) rfl
      have p1 : (0 : Int) ≤ (j : Int) := by omega
      clear hat ha y0 y1 hne hr hbw hav
      go_wp2_with fail
      generalize wr.alloc (.cells #[.string ⟨a.name.toArray⟩, .int .i64 a.len] 52) = w6 at *
      have hP := hi.drew
      have hfit : ((p.shared.take j).flatMap (PP.prArr 0 PP.sShared)).length + (PP.lineP 0 [PP.sShared, a.name, PP.sOpen, PP.dec a.len.toNat, PP.sClose]).length ≤ 140737488355328 := by
        have hle2 : (PP.prArr 0 PP.sShared a).length = (PP.lineP 0 [PP.sShared, a.name, PP.sOpen, PP.dec a.len.toNat, PP.sClose]).length := rfl
        omega
      go_region_held3 (fun V => V.cell? ⟨wr.heap.size, 0, none⟩ = some (.string ⟨a.name.toArray⟩) ∧ V.cell? ⟨wr.heap.size, 1, none⟩ = some (.int .i64 a.len))
        (with_reducible first | exact hi.b0.pair | exact hP.b0.pair | exact (hP.more _).b0.pair | exact hQ.b0.pair)
        (first | (go_at_call 64; (with_reducible refine (itoa_any a.len hn0 hn1 _ hP.pow').mono ?_); rintro e w7 ⟨rfl, hb7⟩; replace hP := hP.below hb7; clear hb7) | (go_at_call 63; refine (line_any [PP.sShared, a.name, PP.sOpen, PP.dec a.len.toNat, PP.sClose] 0 (c := 5) rfl (hP.alloc (strVals [PP.sShared, a.name, PP.sOpen, PP.dec a.len.toNat, PP.sClose]) 9 (by decide) rfl) (by omega) (by simp) hfit).mono ?_; rintro e w9 ⟨rfl, hQ⟩; replace hQ := hQ.drop))
      all_goals
        have HQ := Lib.hid hQ
        clear hP hi hQ d0 d1 hle hfit
        go_wp2_with fail
        go_roundw
        case rel => exact ⟨j + 1, by omega, by go_num, by rw [HT.out]; exact HQ.out.drop⟩
        case measure => simp [intOf]; omega
    · have hall : p.shared.take j = p.shared := List.take_of_length_le (by rw [HNA.out]; omega)
      rw [hall] at hr
      have x1 := (hbw.cell (p := ⟨w.heap.size, 1, none⟩) hlt).trans HX1.out
      have hwv : w.heap.size < wr.heap.size := Nat.lt_of_lt_of_le hlt hbw.size
      have HR := Lib.hid hr
      have HW := Lib.hid hbw
      clear hr hbw hall
      go_wp2_with fail
      clear x1
      go_loopw [34] (fun i wt => ∃ j : Nat, j ≤ nt ∧ i = .int .i64 (j : Int) ∧ PInv w3 w2.heap.size w2.heap.size (p.shared.flatMap (PP.prArr 0 PP.sShared) ++ (p.tasks.take j).flatMap PP.prTask) ((0 : Nat) : Int) [] wt) (fun i _ => nt - (intOf i).toNat)
      case atStart => exact ⟨0, Nat.zero_le _, rfl, by simpa using HR.out⟩
      case round =>
        clear HR HW hwv
        obtain ⟨m, hm, rfl, hr⟩ := hrel
        have hbw := HB3.out.trans hr.be
        by_cases hml : m < nt
        · have hne : p.tasks ≠ [] := by intro e; have := HNT.out; rw [e] at this; simp at this; omega
          obtain ⟨g, o, rfl, hgl, hat⟩ := H2.out.rt hne
          obtain ⟨t, ht⟩ : ∃ t, p.tasks[m]? = some t := ⟨_, List.getElem?_eq_getElem (by have := HNT.out; omega)⟩
          obtain ⟨vA, vc, aA, ac, k, num, nm, kids, kA, kc, T0⟩ := hat m t ht
          have TT := T0.below hbw hgl
          have hle := fm_le p.tasks PP.prTask (m + 1)
          rw [fm_take _ ht, List.length_append] at hle
          have HT := Lib.hid (fm_take PP.prTask ht)
          have hti := HI.out.tv t (List.mem_of_getElem? ht)
          have HTI := Lib.hid hti
          have HT0 := Lib.hid T0
          have hn0 : 0 ≤ t.period := by have := hti.p1; omega
          have hn1 : t.period ≤ 2147483647 := by have := hti.p2; omega
          have hv12 := hti.v
          have ha4 := hti.a
          have hgv : g < wr.heap.size := Nat.lt_of_lt_of_le hgl hbw.size
          have z0 := TT.c0
          have z1 := TT.c1
          have z2 := TT.c2
          have z3 := TT.c3
          have z4 := TT.c4
          have z5 := TT.c5
          have z6 := TT.c6
          have z7 := TT.c7
          have hi := hr.alloc #[.string ⟨t.name.toArray⟩, .int .i64 t.period, .slice vA t.vars.length vc, .slice aA t.arrays.length ac, .int .u8 (k : Int), .int .i64 num, .string ⟨nm.toArray⟩, .slice kA kids.length kc] 58 (by decide) (rfl : wr.heap.size = wr.heap.size)
          have HLT := Lib.hid (show PP.prTask t = PP.lineP 0 [PP.sTask, t.name, PP.sPeriod, PP.dec t.period.toNat, PP.sOb] ++ t.vars.flatMap PP.prVar ++ t.arrays.flatMap (PP.prArr 1 PP.sArray) ++ PP.prB t.body 1 ++ PP.lineP 0 [PP.sCb] from rfl)
          have hltl := congrArg List.length HLT.out
          simp only [List.length_append] at hltl
          have p1 : (0 : Int) ≤ (m : Int) := by omega
          generalize hX : p.shared.flatMap (PP.prArr 0 PP.sShared) ++ (p.tasks.take m).flatMap PP.prTask = X at *
          have hXl : X.length + (PP.prTask t).length ≤ 100000000 := by rw [← hX, List.length_append]; omega
          have HX := Lib.hid hX
          clear hat ht hne hr hbw hti T0 TT hX hle
          go_wp2_with fail
          clear z0 z1 z2 z3 z4 z5 z6 z7
          generalize wr.alloc (.cells #[.string ⟨t.name.toArray⟩, .int .i64 t.period, .slice vA t.vars.length vc, .slice aA t.arrays.length ac, .int .u8 (k : Int), .int .i64 num, .string ⟨nm.toArray⟩, .slice kA kids.length kc] 58) = w6 at *
          generalize wr.heap.size = TB at *
          have hP := hi.drew
          have hfit : X.length + (PP.lineP 0 [PP.sTask, t.name, PP.sPeriod, PP.dec t.period.toNat, PP.sOb]).length ≤ 140737488355328 := by omega
          go_region_held3 (fun V => V.cell? ⟨TB, 0, none⟩ = some (.string ⟨t.name.toArray⟩) ∧ V.cell? ⟨TB, 1, none⟩ = some (.int .i64 t.period))
            (with_reducible first | exact hi.b0.cells8.1 | exact hP.b0.cells8.1 | exact (hP.more _).b0.cells8.1 | exact hQ.b0.cells8.1)
            (first | (go_at_call 64; (with_reducible refine (itoa_any t.period hn0 hn1 _ hP.pow').mono ?_); rintro e w7 ⟨rfl, hb7⟩; replace hP := hP.below hb7; clear hb7) | (go_at_call 63; refine (line_any [PP.sTask, t.name, PP.sPeriod, PP.dec t.period.toNat, PP.sOb] 0 (c := 5) rfl (hP.alloc (strVals [PP.sTask, t.name, PP.sPeriod, PP.dec t.period.toNat, PP.sOb]) 9 (by decide) rfl) (by omega) (by simp) hfit).mono ?_; rintro e w9 ⟨rfl, hQ⟩; replace hQ := hQ.drop))
          all_goals
            clear hP hi hfit
            obtain ⟨q2, f2⟩ := hQ.pg.cell2
            have hI := (show PInv w3 w2.heap.size w2.heap.size _ ((1 : Nat) : Int) _ (w9.setCell ⟨w2.heap.size, 2, none⟩ (.int .i64 1)) from hQ.indent 1)
            have hbl := hQ.pg.lt
            have c2 := hI.b0.cells8.2.1.1
            have HQI := Lib.hid hI
            generalize hL0 : PP.lineP 0 [PP.sTask, t.name, PP.sPeriod, PP.dec t.period.toNat, PP.sOb] = L0 at *
            generalize hVV : t.vars.flatMap PP.prVar = V at *
            clear hQ hI
            go_wp2_with fail
            clear c2 q2 f2 hbl
            generalize w9.setCell ⟨w2.heap.size, 2, none⟩ (.int .i64 1) = w10 at *
            go_loopw [52] (fun i wt => ∃ l : Nat, l ≤ t.vars.length ∧ i = .int .i64 (l : Int) ∧ PInv w3 w2.heap.size w2.heap.size (X ++ L0 ++ (t.vars.take l).flatMap PP.prVar) ((1 : Nat) : Int) [(TB, 58, #[.string ⟨t.name.toArray⟩, .int .i64 t.period, .slice vA t.vars.length vc, .slice aA t.arrays.length ac, .int .u8 (k : Int), .int .i64 num, .string ⟨nm.toArray⟩, .slice kA kids.length kc])] wt) (fun i _ => t.vars.length - (intOf i).toNat)
            case atStart => exact ⟨0, Nat.zero_le _, rfl, by simpa using HQI.out⟩
            case round =>
              clear HQI
              obtain ⟨l, hl, rfl, hr⟩ := hrel
              have hbw := HB3.out.trans hr.be
              by_cases hll : l < t.vars.length
              · have hne : t.vars ≠ [] := by intro e; rw [e] at hll; simp at hll
                obtain ⟨g2, o2, rfl, hgl2, hat2⟩ := Row.str HT0.out.rv hne
                obtain ⟨v, hv⟩ : ∃ v, t.vars[l]? = some v := ⟨_, List.getElem?_eq_getElem hll⟩
                have d0 := (hbw.cell (p := ⟨g2, o2 + l, none⟩) hgl2).trans (hat2 l v hv)
                have hgv2 : g2 < wr.heap.size := Nat.lt_of_lt_of_le hgl2 hbw.size
                have hle := fm_le t.vars PP.prVar (l + 1)
                rw [fm_take _ hv, List.length_append, hVV] at hle
                have HTV := Lib.hid (fm_take PP.prVar hv)
                have HC := Lib.hid (line_any [PP.sVar, v, PP.sSemi] 1 (c := 3) rfl (hr.alloc (strVals [PP.sVar, v, PP.sSemi]) 9 (by decide) rfl) (by omega) (by simp) (by simp only [PP.prVar] at hle; simp only [List.length_append]; omega))
                have p3 : (0 : Int) ≤ (l : Int) := by omega
                have p4 : (l : Int) < (t.vars.length : Int) := by omega
                clear hat2 hv hne hr hbw hle
                go_wp2_with fail
                refine HC.out.mono ?_
                rintro e w11 ⟨rfl, hp11⟩
                have HP11 := Lib.hid hp11.drop
                clear hp11 d0 HC
                go_wp2_with fail
                go_roundw
                case rel => exact ⟨l + 1, by omega, by go_num, by rw [HTV.out, ← List.append_assoc]; exact HP11.out⟩
                case measure => simp [intOf]; omega
              · have hall : t.vars.take l = t.vars := List.take_of_length_le (by omega)
                rw [hall, hVV] at hr
                have c3 := hr.b0.cells8.2.1.2
                have htb := hr.b0.lt
                have HR2 := Lib.hid hr
                clear hr hbw hall
                go_wp2_with fail
                clear c3 htb
                generalize hAA : t.arrays.flatMap (PP.prArr 1 PP.sArray) = AR at *
                go_loopw [63] (fun i wt => ∃ l : Nat, l ≤ t.arrays.length ∧ i = .int .i64 (l : Int) ∧ PInv w3 w2.heap.size w2.heap.size (X ++ L0 ++ V ++ (t.arrays.take l).flatMap (PP.prArr 1 PP.sArray)) ((1 : Nat) : Int) [(TB, 58, #[.string ⟨t.name.toArray⟩, .int .i64 t.period, .slice vA t.vars.length vc, .slice aA t.arrays.length ac, .int .u8 (k : Int), .int .i64 num, .string ⟨nm.toArray⟩, .slice kA kids.length kc])] wt) (fun i _ => t.arrays.length - (intOf i).toNat)
                case atStart => exact ⟨0, Nat.zero_le _, rfl, by simpa using HR2.out⟩
                case round =>
                  clear HR2
                  obtain ⟨f, hf, rfl, hr⟩ := hrel
                  have hbw := HB3.out.trans hr.be
                  by_cases hfl : f < t.arrays.length
                  · have hne : t.arrays ≠ [] := by intro e; rw [e] at hfl; simp at hfl
                    obtain ⟨g, o, rfl, hgl, hat⟩ := Row.arr (HT0.out.ra) hne
                    obtain ⟨a, ha⟩ : ∃ a, t.arrays[f]? = some a := ⟨_, List.getElem?_eq_getElem (by have := (rfl : t.arrays.length = t.arrays.length); omega)⟩
                    obtain ⟨y0, y1⟩ := hat f a ha
                    have d0 := (hbw.cell (p := ⟨g, o + f * 2, none⟩) hgl).trans y0
                    have d1 := (hbw.cell (p := ⟨g, o + f * 2 + 1, none⟩) hgl).trans y1
                    have hgv : g < wr.heap.size := Nat.lt_of_lt_of_le hgl hbw.size
                    have hle := fm_le t.arrays (PP.prArr 1 PP.sArray) (f + 1)
                    rw [fm_take _ ha, List.length_append] at hle
                    have HT := Lib.hid (fm_take (PP.prArr 1 PP.sArray) ha)
                    have hav := okArr_inv (HTI.out.av a (List.mem_of_getElem? ha))
                    have hn0 : 0 ≤ a.len := by omega
                    have hn1 : a.len ≤ 2147483647 := by omega
                    have hi := hr.alloc #[.string ⟨a.name.toArray⟩, .int .i64 a.len] 52 (by decide) rfl
                    have p1 : (0 : Int) ≤ (f : Int) := by omega
                    clear hat ha y0 y1 hne hr hbw hav
                    go_wp2_with fail
                    generalize wr.alloc (.cells #[.string ⟨a.name.toArray⟩, .int .i64 a.len] 52) = w6 at *
                    have hP := hi.drew
                    have hfit : (X ++ L0 ++ V ++ (t.arrays.take f).flatMap (PP.prArr 1 PP.sArray)).length + (PP.lineP 1 [PP.sArray, a.name, PP.sOpen, PP.dec a.len.toNat, PP.sClose]).length ≤ 140737488355328 := by
                      rw [hAA] at hle
                      have hle2 : (PP.prArr 1 PP.sArray a).length = (PP.lineP 1 [PP.sArray, a.name, PP.sOpen, PP.dec a.len.toNat, PP.sClose]).length := rfl
                      simp only [List.length_append]
                      omega
                    go_region_held3 (fun V => V.cell? ⟨wr.heap.size, 0, none⟩ = some (.string ⟨a.name.toArray⟩) ∧ V.cell? ⟨wr.heap.size, 1, none⟩ = some (.int .i64 a.len))
                      (with_reducible first | exact hi.b0.pair | exact hP.b0.pair | exact (hP.more _).b0.pair | exact hQ.b0.pair)
                      (first | (go_at_call 64; (with_reducible refine (itoa_any a.len hn0 hn1 _ hP.pow').mono ?_); rintro e w7 ⟨rfl, hb7⟩; replace hP := hP.below hb7; clear hb7) | (go_at_call 63; refine (line_any [PP.sArray, a.name, PP.sOpen, PP.dec a.len.toNat, PP.sClose] 1 (c := 5) rfl (hP.alloc (strVals [PP.sArray, a.name, PP.sOpen, PP.dec a.len.toNat, PP.sClose]) 9 (by decide) rfl) (by omega) (by simp) hfit).mono ?_; rintro e w9 ⟨rfl, hQ⟩; replace hQ := hQ.drop))
                    all_goals
                      have HQ := Lib.hid hQ
                      clear hP hi hQ d0 d1 hle hfit
                      go_wp2_with fail
                      go_roundw
                      case rel => exact ⟨f + 1, by omega, by go_num, by rw [HT.out]; have := HQ.out.drop; rw [List.append_assoc] at this; exact this⟩
                      case measure => simp [intOf]; omega
                  · have hall : t.arrays.take f = t.arrays := List.take_of_length_le (by omega)
                    rw [hall, hAA] at hr
                    obtain ⟨q2, f2⟩ := hr.pg.cell2
                    have hbl := hr.pg.lt
                    have hI := (show PInv w3 w2.heap.size w2.heap.size _ ((0 : Nat) : Int) _ (wr.setCell ⟨w2.heap.size, 2, none⟩ (.int .i64 0)) from hr.indent 0)
                    obtain ⟨_, _, c4, c5, c6, c7⟩ := hI.b0.cells8
                    have htb := hI.b0.lt
                    have hkid := (HT0.out.ks.weak (Z' := (· < w2.heap.size)) (fun g _ hg => hg)).keep (w' := w3) ⟨HB3.out.size, fun g hg _ => HB3.out.block g hg⟩
                    have HC := Lib.hid (block_all HTI.out.b (by have := HTI.out.s; omega) w3 _ _ 0 _ k num nm kA kc kids HT0.out.bd hkid hI (by have := HTI.out.d; omega) (by simp only [List.length_append, Nat.zero_add]; omega))
                    clear hr hbw hall hkid hI
                    go_wp2_with fail
                    refine HC.out.mono ?_
                    rintro e w11 ⟨rfl, hp11⟩
                    clear c4 c5 c6 c7 htb q2 f2 hbl
                    have HC2 := Lib.hid (line_any [PP.sCb] 0 (c := 1) rfl (hp11.alloc (strVals [PP.sCb]) 9 (by decide) rfl) (by omega) (by simp) (by simp only [List.length_append, Nat.zero_add]; omega))
                    clear hp11 HC
                    go_wp2_with fail
                    refine HC2.out.mono ?_
                    rintro e w12 ⟨rfl, hp12⟩
                    have HP12 := Lib.hid hp12.drop.drop
                    clear hp12 HC2
                    go_wp2_with fail
                    go_roundw
                    case rel => exact ⟨m + 1, by omega, by go_num, by rw [HT.out, ← List.append_assoc, HX.out, HLT.out]; have := HP12.out; simpa [List.append_assoc] using this⟩
                    case measure => simp [intOf]; omega
        · have hall : p.tasks.take m = p.tasks := List.take_of_length_le (by rw [HNT.out]; omega)
          rw [hall] at hr
          have HS := Lib.hid (page_string _ _ _ _ _ hr.pg)
          have HP := Lib.hid hr
          clear hr hall hbw
          go_wp2_with fail
          refine HS.out.mono ?_
          rintro e w5 ⟨rfl, hb5⟩
          have HB5 := Lib.hid hb5
          clear hb5
          go_wp2_with fail
          go_ret2
          exact ⟨rfl, HB2.out.trans (Below.mono (HB3.out.trans (HP.out.be.trans HB5.out)) HB2.out.size)⟩
end
end Go.Proofs.YtfakdbnfpdalhaaGreatDoor
