/- The contract of the reference's SmallProgram for every program. -/
import Derived.Test.YtfakdbnfpdalhaaGreatDoorCnt
import Derived.Test.YtfakdbnfpdalhaaGreatDoorPrJ
namespace Go.Proofs.YtfakdbnfpdalhaaGreatDoor
open Go.RowKit
open PP (Tree ArrD TaskD ProgD)
def PP.smA (a : ArrD) : Bool := decide (a.name.length ≤ 40)
def PP.smV (v : List UInt8) : Bool := decide (v.length ≤ 40)
def PP.smT (t : TaskD) : Bool := decide (PP.cntT t.body 20 ≤ 500) && decide (t.vars.length ≤ 20) && decide (t.arrays.length ≤ 20) && decide (t.name.length ≤ 40) && t.vars.all PP.smV && t.arrays.all PP.smA
def PP.smP (p : ProgD) : Bool := decide (p.shared.length ≤ 10) && decide (p.tasks.length ≤ 10) && p.shared.all PP.smA && p.tasks.all PP.smT
/-- A task at cells, of any size. -/
structure TaskU (w : World) (b o : Nat) (t : TaskD) (vA : Option Addr) (vc : Nat) (aA : Option Addr) (ac : Nat) (k : Nat) (num : Int) (nm : List UInt8) (kids : List Tree) (kA : Option Addr) (kc : Nat) : Prop where
  c0 : w.cell? ⟨b, o, none⟩ = some (.string ⟨t.name.toArray⟩)
  c1 : w.cell? ⟨b, o + 1, none⟩ = some (.int .i64 t.period)
  c2 : w.cell? ⟨b, o + 2, none⟩ = some (.slice vA t.vars.length vc)
  c3 : w.cell? ⟨b, o + 3, none⟩ = some (.slice aA t.arrays.length ac)
  c4 : w.cell? ⟨b, o + 4, none⟩ = some (.int .u8 (k : Int))
  c5 : w.cell? ⟨b, o + 5, none⟩ = some (.int .i64 num)
  c6 : w.cell? ⟨b, o + 6, none⟩ = some (.string ⟨nm.toArray⟩)
  c7 : w.cell? ⟨b, o + 7, none⟩ = some (.slice kA kids.length kc)
  bd : t.body = .node k num nm kids
  rv : Row w vA (strCells t.vars)
  ra : Row w aA (arrCells t.arrays)
  ks : KidsC w (fun _ => True) kA kids
  bt : PP.bdT t.body
def TasksU (w : World) (A : Option Addr) (ts : List TaskD) : Prop := ts ≠ [] → ∃ b o, A = some ⟨b, o, none⟩ ∧ b < w.heap.size ∧ ∀ i t, ts[i]? = some t → ∃ vA vc aA ac k num nm kids kA kc, TaskU w b (o + i * 8) t vA vc aA ac k num nm kids kA kc
/-- A program, of any size. -/
structure ProgU (w : World) (A : Option Addr) (T : Option Addr) (p : ProgD) : Prop where
  ra : Row w A (arrCells p.shared)
  rt : TasksU w T p.tasks
theorem TaskU.below {w w' : World} {b o : Nat} {t : TaskD} {vA : Option Addr} {vc : Nat} {aA : Option Addr} {ac : Nat} {k : Nat} {num : Int} {nm : List UInt8} {kids : List Tree} {kA : Option Addr} {kc : Nat}
    (h : TaskU w b o t vA vc aA ac k num nm kids kA kc) (hb : Below w.heap.size w w') (hlt : b < w.heap.size) : TaskU w' b o t vA vc aA ac k num nm kids kA kc :=
  ⟨(hb.cell (p := ⟨b, o, none⟩) hlt).trans h.c0, (hb.cell (p := ⟨b, o + 1, none⟩) hlt).trans h.c1, (hb.cell (p := ⟨b, o + 2, none⟩) hlt).trans h.c2, (hb.cell (p := ⟨b, o + 3, none⟩) hlt).trans h.c3, (hb.cell (p := ⟨b, o + 4, none⟩) hlt).trans h.c4, (hb.cell (p := ⟨b, o + 5, none⟩) hlt).trans h.c5, (hb.cell (p := ⟨b, o + 6, none⟩) hlt).trans h.c6, (hb.cell (p := ⟨b, o + 7, none⟩) hlt).trans h.c7,
    h.bd, h.rv.below hb, h.ra.below hb, h.ks.keep ⟨hb.size, fun g _ hg => hb.block g hg⟩, h.bt⟩
theorem ProgU.below {w w' : World} {A T : Option Addr} {p : ProgD} (h : ProgU w A T p) (hb : Below w.heap.size w w') : ProgU w' A T p := ⟨h.ra.below hb, fun hn => by
  obtain ⟨b, o, rfl, hlt, hc⟩ := h.rt hn
  refine ⟨b, o, rfl, Nat.lt_of_lt_of_le hlt hb.size, fun i t hi => ?_⟩
  obtain ⟨vA, vc, aA, ac, k, num, nm, kids, kA, kc, ht⟩ := hc i t hi
  exact ⟨vA, vc, aA, ac, k, num, nm, kids, kA, kc, ht.below hb hlt⟩⟩
/-- What a small program is. -/
structure SmInv (t : TaskD) : Prop where
  c : PP.cntT t.body 20 ≤ 500
  v : t.vars.length ≤ 20
  a : t.arrays.length ≤ 20
  n : t.name.length ≤ 40
  vv : ∀ v ∈ t.vars, v.length ≤ 40
  av : ∀ a ∈ t.arrays, a.name.length ≤ 40
theorem smT_inv {t : TaskD} (h : PP.smT t = true) : SmInv t := by
  simp only [PP.smT, PP.smV, PP.smA, Bool.and_eq_true, decide_eq_true_iff, List.all_eq_true] at h
  obtain ⟨⟨⟨⟨⟨h1, h2⟩, h3⟩, h4⟩, h5⟩, h6⟩ := h
  exact ⟨h1, h2, h3, h4, h5, h6⟩
theorem smP_inv {p : ProgD} (h : PP.smP p = true) : p.shared.length ≤ 10 ∧ p.tasks.length ≤ 10 ∧ (∀ a ∈ p.shared, a.name.length ≤ 40) ∧ ∀ t ∈ p.tasks, SmInv t := by
  simp only [PP.smP, PP.smA, Bool.and_eq_true, decide_eq_true_iff, List.all_eq_true] at h
  exact ⟨h.1.1.1, h.1.1.2, h.1.2, fun t ht => smT_inv (h.2 t ht)⟩
theorem ProgU.small {w : World} {A T : Option Addr} {p : ProgD} (h : ProgU w A T p) (hs : PP.smP p = true) : ProgR w A T p ∧ NmArr p.shared ∧ ∀ t ∈ p.tasks, NmTask t := by
  obtain ⟨h1, h2, h3, h4⟩ := smP_inv hs
  refine ⟨⟨h.ra, fun hn => ?_, by omega, by omega⟩, fun a ha => by have := h3 a ha; omega, fun t ht => ?_⟩
  · obtain ⟨b, o, rfl, hlt, hc⟩ := h.rt hn
    refine ⟨b, o, rfl, hlt, fun i t hi => ?_⟩
    obtain ⟨vA, vc, aA, ac, k, num, nm, kids, kA, kc, u⟩ := hc i t hi
    have hs := h4 t (List.mem_of_getElem? hi)
    exact ⟨vA, vc, aA, ac, k, num, nm, kids, kA, kc, ⟨u.c0, u.c1, u.c2, u.c3, u.c4, u.c5, u.c6, u.c7, u.bd, u.rv, u.ra, u.ks, by have := hs.v; omega, by have := hs.a; omega⟩⟩
  · have hs := h4 t ht
    obtain ⟨c1, c2, c3⟩ := PP.cntT_ok t.body 20 (by have := hs.c; omega)
    exact ⟨by have := hs.n; omega, fun v hv => by have := hs.vv v hv; omega, fun a ha => by have := hs.av a ha; omega, c3, by have := hs.c; omega⟩
theorem size_mkS (l : List UInt8) : (⟨l.toArray⟩ : ByteArray).size = l.length := by simp [ByteArray.size]
section
set_option maxHeartbeats 8000000
set_option maxRecDepth 100000
theorem smallProg_any {p : ProgD} {A T : Option Addr} {c d na nt : Nat} {w : World} (hna : p.shared.length = na) (hnt : p.tasks.length = nt) (h : ProgU w A T p) :
    Calls Tryz.prog 24 #[.agg #[.slice A na c, .slice T nt d]] w fun e w' => e = .returned (.bool (PP.smP p)) ∧ Below w.heap.size w w' := by
  have hnot : ∀ (x : Bool) (w : World), (Op.unary .not (.bool x)).run Tryz.prog w = .ok (.bool (!x)) w := fun _ _ => rfl
  have hb1 : Below w.heap.size w (w.alloc (.cells #[.slice A na c, .slice T nt d] 26)) := (Below.refl _ _).alloc (Nat.le_refl _) _
  have HBK := Lib.hid (Blk.new w 26 #[.slice A na c, .slice T nt d])
  have HB1 := Lib.hid hb1
  have HA := Lib.hid (h.below hb1)
  have HNA := Lib.hid hna
  have HNT := Lib.hid hnt
  have HEQ := Lib.hid (show PP.smP p = (decide (p.shared.length ≤ 10) && decide (p.tasks.length ≤ 10) && p.shared.all PP.smA && p.tasks.all PP.smT) from rfl)
  generalize PP.smP p = R at *
  clear h hb1 hna hnt
  by_cases c1 : 10 < na
  · have y1 : decide ((10 : Int) < (na : Int)) = true := by simp; omega
    have y1' : decide (10 < na) = true := by simpa using c1
    have HR := Lib.hid (show R = false by rw [HEQ.out, HNA.out, show decide (na ≤ 10) = false from by simp; omega]; simp)
    go_enter Tryz.func24, Tryz.ntmps24
    go_wp2_with fail
    go_ret
    exact ⟨by rw [HR.out]; rfl, HB1.out⟩
  have y1 : decide ((10 : Int) < (na : Int)) = false := by simp; omega
  have y1' : decide (10 < na) = false := by simpa using c1
  by_cases c2 : 10 < nt
  · have y2 : decide ((10 : Int) < (nt : Int)) = true := by simp; omega
    have y2' : decide (10 < nt) = true := by simpa using c2
    have HR := Lib.hid (show R = false by rw [HEQ.out, HNT.out, show decide (nt ≤ 10) = false from by simp; omega]; simp)
    go_enter Tryz.func24, Tryz.ntmps24
    go_wp2_with fail
    go_ret
    exact ⟨by rw [HR.out]; rfl, HB1.out⟩
  have y2 : decide ((10 : Int) < (nt : Int)) = false := by simp; omega
  have y2' : decide (10 < nt) = false := by simpa using c2
  have HEQ2 := Lib.hid (show R = (p.shared.all PP.smA && p.tasks.all PP.smT) by rw [HEQ.out, HNA.out, HNT.out, show decide (na ≤ 10) = true from by simp; omega, show decide (nt ≤ 10) = true from by simp; omega]; simp)
  clear HEQ
  go_enter Tryz.func24, Tryz.ntmps24
  go_wp2_with fail
  generalize w.alloc (.cells #[.slice A na c, .slice T nt d] 26) = w1 at *
  generalize hPB : w.heap.size = PB at *
  have HPB := Lib.hid hPB
  clear y1 y1' y2 y2' hPB
  go_loopw [3] (fun i wt => ∃ j : Nat, j ≤ na ∧ i = .int .i64 (j : Int) ∧ (∀ l a, l < j → p.shared[l]? = some a → PP.smA a = true) ∧ w1 = wt) (fun i _ => na - (intOf i).toNat)
  case atStart => exact ⟨0, Nat.zero_le _, rfl, fun l _ h => by omega, rfl⟩
  case round =>
    obtain ⟨j, hj, rfl, hall, rfl⟩ := hrel
    obtain ⟨x0, x1⟩ := HBK.out.pair
    have hlt := HBK.out.lt
    by_cases hjl : j < na
    · have hne : p.shared ≠ [] := by intro e; have hx := HNA.out; rw [e] at hx; simp at hx; omega
      obtain ⟨g, o, rfl, hgl, hat⟩ := Row.arr (HA.out.ra) hne
      obtain ⟨a, ha⟩ : ∃ a, p.shared[j]? = some a := ⟨_, List.getElem?_eq_getElem (by have := HNA.out; omega)⟩
      obtain ⟨d0, _⟩ := hat j a ha
      have p1 : (0 : Int) ≤ (j : Int) := by omega
      have p2 : (j : Int) < (na : Int) := by omega
      have hs := size_mkS a.name
      have HALL := Lib.hid (fun he : PP.smA a = true => (show ∀ l b, l < j + 1 → p.shared[l]? = some b → PP.smA b = true by
        intro l b hl hb
        rcases Nat.lt_or_ge l j with h | h
        · exact hall l b h hb
        · obtain rfl : l = j := by omega
          rw [ha] at hb; injection hb with hb; subst hb; exact he))
      have HBAD := Lib.hid (fun he : PP.smA a = false => all_bad (p := PP.smA) ha he)
      generalize (⟨a.name.toArray⟩ : ByteArray) = NM at *
      by_cases hn : a.name.length ≤ 40
      · have HE := Lib.hid (show PP.smA a = true by simp [PP.smA, hn])
        have p3 : ¬ (40 : Int) < (NM.size : Int) := by omega
        have p4 : ¬ 40 < NM.size := by omega
        clear hat ha hne hall hs hn
        go_wp2_with fail
        go_roundw
        case rel => exact ⟨j + 1, by omega, by go_num, HALL.out HE.out, by first | rfl | trivial⟩
        case measure => simp [intOf]; omega
      · have HR := Lib.hid (show R = false by rw [HEQ2.out, HBAD.out (by simp [PP.smA]; omega)]; simp)
        have p3 : (40 : Int) < (NM.size : Int) := by omega
        have p4 : 40 < NM.size := by omega
        clear hat ha hne hall hs hn
        go_wp2_with fail
        go_ret
        exact ⟨by rw [HR.out]; rfl, by rw [HPB.out]; exact HB1.out⟩
    · have p2 : ¬ (j : Int) < (na : Int) := by omega
      have HEQ3 := Lib.hid (show R = p.tasks.all PP.smT by rw [HEQ2.out, all_at (p := PP.smA) (fun i a h1 => hall i a (by have := (List.getElem?_eq_some_iff.1 h1).1; have := HNA.out; omega) h1)]; simp)
      clear hall HEQ2 x1
      go_wp2_with fail
      clear x0 p2
      go_loopw [4] (fun i wt => ∃ j : Nat, j ≤ nt ∧ i = .int .i64 (j : Int) ∧ (∀ l t, l < j → p.tasks[l]? = some t → PP.smT t = true) ∧ Below w1.heap.size w1 wt) (fun i _ => nt - (intOf i).toNat)
      case atStart => exact ⟨0, Nat.zero_le _, rfl, fun l _ h => by omega, Below.refl _ _⟩
      case round =>
        obtain ⟨m, hm, rfl, hall, hbr⟩ := hrel
        have hbk := HBK.out.below hbr
        obtain ⟨x0, x1⟩ := hbk.pair
        have hlt2 := hbk.lt
        have HBR := Lib.hid hbr
        clear hbk x0
        by_cases hml : m < nt
        · have hne : p.tasks ≠ [] := by intro e; have := HNT.out; rw [e] at this; simp at this; omega
          obtain ⟨g, o, rfl, hgl, hat⟩ := HA.out.rt hne
          obtain ⟨t, ht⟩ : ∃ t, p.tasks[m]? = some t := ⟨_, List.getElem?_eq_getElem (by have := HNT.out; omega)⟩
          obtain ⟨vA, vc, aA, ac, k, num, nm, kids, kA, kc, T0⟩ := hat m t ht
          have TT := T0.below hbr hgl
          have hgv : g < wr.heap.size := Nat.lt_of_lt_of_le hgl hbr.size
          have z0 := TT.c0
          have z1 := TT.c1
          have z2 := TT.c2
          have z3 := TT.c3
          have z4 := TT.c4
          have z5 := TT.c5
          have z6 := TT.c6
          have z7 := TT.c7
          have hb6 := (Below.refl _ wr).alloc (Nat.le_refl _) (.cells #[.string ⟨t.name.toArray⟩, .int .i64 t.period, .slice vA t.vars.length vc, .slice aA t.arrays.length ac, .int .u8 (k : Int), .int .i64 num, .string ⟨nm.toArray⟩, .slice kA kids.length kc] 58)
          have HB6 := Lib.hid (hbr.trans (hb6.mono hbr.size))
          have HK6 := Lib.hid (Blk.new wr 58 #[.string ⟨t.name.toArray⟩, .int .i64 t.period, .slice vA t.vars.length vc, .slice aA t.arrays.length ac, .int .u8 (k : Int), .int .i64 num, .string ⟨nm.toArray⟩, .slice kA kids.length kc])
          have HT0 := Lib.hid T0
          have hbt := T0.bt
          rw [T0.bd] at hbt
          have hsm := small_any (k := k) (num := num) (nm := nm) (c := kc) (TT.ks.keep (w' := wr.alloc (.cells #[.string ⟨t.name.toArray⟩, .int .i64 t.period, .slice vA t.vars.length vc, .slice aA t.arrays.length ac, .int .u8 (k : Int), .int .i64 num, .string ⟨nm.toArray⟩, .slice kA kids.length kc] 58)) ⟨hb6.size, fun g _ hg => hb6.block g hg⟩) hbt
          rw [← T0.bd] at hsm
          have HSM := Lib.hid hsm
          have HALL := Lib.hid (fun he : PP.smT t = true => (show ∀ l b, l < m + 1 → p.tasks[l]? = some b → PP.smT b = true by
            intro l b hl hb
            rcases Nat.lt_or_ge l m with h | h
            · exact hall l b h hb
            · obtain rfl : l = m := by omega
              rw [ht] at hb; injection hb with hb; subst hb; exact he))
          have HRB := Lib.hid (fun he : PP.smT t = false => (show R = false by rw [HEQ3.out, all_bad (p := PP.smT) ht he]))
          have HST := Lib.hid (show PP.smT t = (decide (PP.cntT t.body 20 ≤ 500) && decide (t.vars.length ≤ 20) && decide (t.arrays.length ≤ 20) && decide (t.name.length ≤ 40) && t.vars.all PP.smV && t.arrays.all PP.smA) from rfl)
          have p1 : (0 : Int) ≤ (m : Int) := by omega
          have p2 : (m : Int) < (nt : Int) := by omega
          have hs := size_mkS t.name
          clear hat ht hne hall hbr TT T0 hb6 hbt hsm
          go_wp2_with fail
          clear z0 z1 z2 z3 z4 z5 z6 z7 x1
          generalize wr.alloc (.cells #[.string ⟨t.name.toArray⟩, .int .i64 t.period, .slice vA t.vars.length vc, .slice aA t.arrays.length ac, .int .u8 (k : Int), .int .i64 num, .string ⟨nm.toArray⟩, .slice kA kids.length kc] 58) = w6 at *
          generalize wr.heap.size = TB at *
          refine HSM.out.mono ?_
          rintro e w7 ⟨rfl, hb7⟩
          have HB67 := Lib.hid hb7
          have HK7 := Lib.hid (HK6.out.below hb7)
          have HB7 := Lib.hid (HB6.out.trans (hb7.mono HB6.out.size))
          obtain ⟨⟨e0, _⟩, ⟨e2, e3⟩, _⟩ := HK7.out.cells8
          have hl7 := HK7.out.lt
          generalize (⟨t.name.toArray⟩ : ByteArray) = NM at *
          clear hb7 HSM
          by_cases k1 : PP.cntT t.body 20 ≤ 500
          case neg =>
            have HR := Lib.hid (show R = false from HRB.out (by rw [HST.out, show decide (PP.cntT t.body 20 ≤ 500) = false from by simpa using k1]; simp))
            have f0 : decide (PP.cntT t.body 20 ≤ 500) = false := by simpa using k1
            clear hs HST k1
            go_wp2_with fail
            go_ret
            exact ⟨by rw [HR.out]; rfl, by rw [HPB.out]; exact HB1.out.trans (HB7.out.mono (by have := HB1.out.size; have := HPB.out; omega))⟩
          by_cases k2 : t.vars.length ≤ 20
          case neg =>
            have HR := Lib.hid (show R = false from HRB.out (by rw [HST.out, show decide (t.vars.length ≤ 20) = false from by simpa using k2]; simp))
            have f0 : decide (PP.cntT t.body 20 ≤ 500) = true := by simpa using k1
            have f1 : decide ((20 : Int) < (t.vars.length : Int)) = true := by simp; omega
            have g1 : decide (20 < t.vars.length) = true := by simp; omega
            clear hs HST k1 k2
            go_wp2_with fail
            go_ret
            exact ⟨by rw [HR.out]; rfl, by rw [HPB.out]; exact HB1.out.trans (HB7.out.mono (by have := HB1.out.size; have := HPB.out; omega))⟩
          by_cases k3 : t.arrays.length ≤ 20
          case neg =>
            have HR := Lib.hid (show R = false from HRB.out (by rw [HST.out, show decide (t.arrays.length ≤ 20) = false from by simpa using k3]; simp))
            have f0 : decide (PP.cntT t.body 20 ≤ 500) = true := by simpa using k1
            have f1 : decide ((20 : Int) < (t.vars.length : Int)) = false := by simp; omega
            have g1 : decide (20 < t.vars.length) = false := by simp; omega
            have f2 : decide ((20 : Int) < (t.arrays.length : Int)) = true := by simp; omega
            have g2 : decide (20 < t.arrays.length) = true := by simp; omega
            clear hs HST k1 k2 k3
            go_wp2_with fail
            go_ret
            exact ⟨by rw [HR.out]; rfl, by rw [HPB.out]; exact HB1.out.trans (HB7.out.mono (by have := HB1.out.size; have := HPB.out; omega))⟩
          by_cases k4 : t.name.length ≤ 40
          case neg =>
            have HR := Lib.hid (show R = false from HRB.out (by rw [HST.out, show decide (t.name.length ≤ 40) = false from by simpa using k4]; simp))
            have f0 : decide (PP.cntT t.body 20 ≤ 500) = true := by simpa using k1
            have f1 : decide ((20 : Int) < (t.vars.length : Int)) = false := by simp; omega
            have g1 : decide (20 < t.vars.length) = false := by simp; omega
            have f2 : decide ((20 : Int) < (t.arrays.length : Int)) = false := by simp; omega
            have g2 : decide (20 < t.arrays.length) = false := by simp; omega
            have f3 : decide ((40 : Int) < (NM.size : Int)) = true := by simp; omega
            have g3 : decide (40 < NM.size) = true := by simp; omega
            clear hs HST k1 k2 k3 k4
            go_wp2_with fail
            go_ret
            exact ⟨by rw [HR.out]; rfl, by rw [HPB.out]; exact HB1.out.trans (HB7.out.mono (by have := HB1.out.size; have := HPB.out; omega))⟩
          have HST2 := Lib.hid (show PP.smT t = (t.vars.all PP.smV && t.arrays.all PP.smA) by rw [HST.out, show decide (PP.cntT t.body 20 ≤ 500) = true from by simpa using k1, show decide (t.vars.length ≤ 20) = true from by simpa using k2, show decide (t.arrays.length ≤ 20) = true from by simpa using k3, show decide (t.name.length ≤ 40) = true from by simpa using k4]; simp)
          have f0 : decide (PP.cntT t.body 20 ≤ 500) = true := by simpa using k1
          have f1 : decide ((20 : Int) < (t.vars.length : Int)) = false := by simp; omega
          have g1 : decide (20 < t.vars.length) = false := by simp; omega
          have f2 : decide ((20 : Int) < (t.arrays.length : Int)) = false := by simp; omega
          have g2 : decide (20 < t.arrays.length) = false := by simp; omega
          have f3 : decide ((40 : Int) < (NM.size : Int)) = false := by simp; omega
          have g3 : decide (40 < NM.size) = false := by simp; omega
          clear k1 k4
          clear hs HST
          go_wp2_with fail
          clear e0 e2 e3 f0 f1 g1 f2 g2 f3 g3
          go_loopw [6] (fun i wt => ∃ l : Nat, l ≤ t.vars.length ∧ i = .int .i64 (l : Int) ∧ (∀ i v, i < l → t.vars[i]? = some v → PP.smV v = true) ∧ w7 = wt) (fun i _ => t.vars.length - (intOf i).toNat)
          case atStart => exact ⟨0, Nat.zero_le _, rfl, fun l _ h => by omega, rfl⟩
          case round =>
            obtain ⟨l, hl, rfl, hall, rfl⟩ := hrel
            obtain ⟨⟨e0, _⟩, ⟨e2, e3⟩, _⟩ := HK7.out.cells8
            by_cases hll : l < t.vars.length
            · have hne : t.vars ≠ [] := by intro e; rw [e] at hll; simp at hll
              obtain ⟨g2, o2, rfl, hgl2, hat2⟩ := Row.str HT0.out.rv hne
              obtain ⟨v, hv⟩ : ∃ v, t.vars[l]? = some v := ⟨_, List.getElem?_eq_getElem hll⟩
              have d0 := (HB7.out.cell (p := ⟨g2, o2 + l, none⟩) hgl2).trans (hat2 l v hv)
              have hgv2 : g2 < w7.heap.size := Nat.lt_of_lt_of_le hgl2 HB7.out.size
              have hvs := size_mkS v
              have HALLV := Lib.hid (fun he : PP.smV v = true => (show ∀ i b, i < l + 1 → t.vars[i]? = some b → PP.smV b = true by
                intro i b hi hb
                rcases Nat.lt_or_ge i l with h | h
                · exact hall i b h hb
                · obtain rfl : i = l := by omega
                  rw [hv] at hb; injection hb with hb; subst hb; exact he))
              have HBADV := Lib.hid (fun he : PP.smV v = false => all_bad (p := PP.smV) hv he)
              obtain ⟨VV, hVV⟩ : ∃ VV : ByteArray, VV = ⟨v.toArray⟩ := ⟨_, rfl⟩
              rw [← hVV] at d0 hvs
              clear hVV
              have p3 : (0 : Int) ≤ (l : Int) := by omega
              have p4 : (l : Int) < (t.vars.length : Int) := by omega
              by_cases hn : v.length ≤ 40
              · have HE := Lib.hid (show PP.smV v = true by simp [PP.smV, hn])
                have p5 : ¬ (40 : Int) < (VV.size : Int) := by omega
                have p6 : ¬ 40 < VV.size := by omega
                clear hat2 hv hne hall hvs hn e0 e3
                go_wp2_with fail
                go_roundw
                case rel => exact ⟨l + 1, by omega, by go_num, HALLV.out HE.out, by first | rfl | trivial⟩
                case measure => simp [intOf]; omega
              · have HR := Lib.hid (show R = false from HRB.out (by rw [HST2.out, HBADV.out (by simp [PP.smV]; omega)]; simp))
                have p5 : (40 : Int) < (VV.size : Int) := by omega
                have p6 : 40 < VV.size := by omega
                clear hat2 hv hne hall hvs hn e0 e3
                go_wp2_with fail
                go_ret
                exact ⟨by rw [HR.out]; rfl, by rw [HPB.out]; exact HB1.out.trans (HB7.out.mono (by have := HB1.out.size; have := HPB.out; omega))⟩
            · have p4 : ¬ (l : Int) < (t.vars.length : Int) := by omega
              have HST3 := Lib.hid (show PP.smT t = t.arrays.all PP.smA by rw [HST2.out, all_at (p := PP.smV) (fun i a h1 => hall i a (by have := (List.getElem?_eq_some_iff.1 h1).1; omega) h1)]; simp)
              clear hall HST2 e0 e3
              go_wp2_with fail
              clear e2 p4
              go_loopw [7] (fun i wt => ∃ l : Nat, l ≤ t.arrays.length ∧ i = .int .i64 (l : Int) ∧ (∀ i v, i < l → t.arrays[i]? = some v → PP.smA v = true) ∧ w7 = wt) (fun i _ => t.arrays.length - (intOf i).toNat)
              case atStart => exact ⟨0, Nat.zero_le _, rfl, fun l _ h => by omega, rfl⟩
              case round =>
                obtain ⟨f, hf, rfl, hall, rfl⟩ := hrel
                obtain ⟨⟨e0, _⟩, ⟨e2, e3⟩, _⟩ := HK7.out.cells8
                by_cases hfl : f < t.arrays.length
                · have hne : t.arrays ≠ [] := by intro e; rw [e] at hfl; simp at hfl
                  obtain ⟨g2, o2, rfl, hgl2, hat2⟩ := Row.arr HT0.out.ra hne
                  obtain ⟨v, hv⟩ : ∃ v, t.arrays[f]? = some v := ⟨_, List.getElem?_eq_getElem hfl⟩
                  have d0 := (HB7.out.cell (p := ⟨g2, o2 + f * 2, none⟩) hgl2).trans (hat2 f v hv).1
                  have hgv2 : g2 < w7.heap.size := Nat.lt_of_lt_of_le hgl2 HB7.out.size
                  have hvs := size_mkS v.name
                  have HALLV := Lib.hid (fun he : PP.smA v = true => (show ∀ i b, i < f + 1 → t.arrays[i]? = some b → PP.smA b = true by
                    intro i b hi hb
                    rcases Nat.lt_or_ge i f with h | h
                    · exact hall i b h hb
                    · obtain rfl : i = f := by omega
                      rw [hv] at hb; injection hb with hb; subst hb; exact he))
                  have HBADV := Lib.hid (fun he : PP.smA v = false => all_bad (p := PP.smA) hv he)
                  obtain ⟨VV, hVV⟩ : ∃ VV : ByteArray, VV = ⟨v.name.toArray⟩ := ⟨_, rfl⟩
                  rw [← hVV] at d0 hvs
                  clear hVV
                  have p3 : (0 : Int) ≤ (f : Int) := by omega
                  have p4 : (f : Int) < (t.arrays.length : Int) := by omega
                  by_cases hn : v.name.length ≤ 40
                  · have HE := Lib.hid (show PP.smA v = true by simp [PP.smA, hn])
                    have p5 : ¬ (40 : Int) < (VV.size : Int) := by omega
                    have p6 : ¬ 40 < VV.size := by omega
                    clear hat2 hv hne hall hvs hn e0 e2
                    go_wp2_with fail
                    go_roundw
                    case rel => exact ⟨f + 1, by omega, by go_num, HALLV.out HE.out, by first | rfl | trivial⟩
                    case measure => simp [intOf]; omega
                  · have HR := Lib.hid (show R = false from HRB.out (by rw [HST3.out, HBADV.out (by simp [PP.smA]; omega)]))
                    have p5 : (40 : Int) < (VV.size : Int) := by omega
                    have p6 : 40 < VV.size := by omega
                    clear hat2 hv hne hall hvs hn e0 e2
                    go_wp2_with fail
                    go_ret
                    exact ⟨by rw [HR.out]; rfl, by rw [HPB.out]; exact HB1.out.trans (HB7.out.mono (by have := HB1.out.size; have := HPB.out; omega))⟩
                · have p4 : ¬ (f : Int) < (t.arrays.length : Int) := by omega
                  have HE := Lib.hid (show PP.smT t = true by rw [HST3.out]; exact all_at (p := PP.smA) (fun i a h1 => hall i a (by have := (List.getElem?_eq_some_iff.1 h1).1; omega) h1))
                  clear hall HST3 e0 e2
                  go_wp2_with fail
                  go_roundw
                  case rel => exact ⟨m + 1, by omega, by go_num, HALL.out HE.out, HB7.out⟩
                  case measure => simp [intOf]; omega
        · have p2 : ¬ (m : Int) < (nt : Int) := by omega
          have HR := Lib.hid (show R = true by rw [HEQ3.out]; exact all_at (p := PP.smT) (fun i a h1 => hall i a (by have := (List.getElem?_eq_some_iff.1 h1).1; have := HNT.out; omega) h1))
          clear hall hbr
          go_wp2_with fail
          go_ret
          exact ⟨by rw [HR.out]; rfl, by rw [HPB.out]; exact HB1.out.trans (HBR.out.mono (by have := HB1.out.size; have := HPB.out; omega))⟩
end
end Go.Proofs.YtfakdbnfpdalhaaGreatDoor
