/- The contracts of ast.areArrays and ast.isSmall. -/
import Derived.Test.YtfakdbnfpdalhaaGreatDoorValC
import Derived.Test.YtfakdbnfpdalhaaGreatDoorSame2
namespace Go.Proofs.YtfakdbnfpdalhaaGreatDoor
open Go.RowKit Go.Maps
open PP (Tree ArrD TaskD ProgD)
theorem cf_areArrays1 (u : Value) (W : World) : Sem.run Tryz.prog (callFunc 113 #[u]) W = .ok (Next.enter 113 #[u]) W := by kernel_rfl
theorem all_at {α : Type} {p : α → Bool} {l : List α} (h : ∀ (i : Nat) x, l[i]? = some x → p x = true) : l.all p = true := List.all_eq_true.2 fun x hx => by
  obtain ⟨i, hi⟩ := List.mem_iff_getElem?.1 hx
  exact h i x hi
theorem all_bad {α : Type} {p : α → Bool} {l : List α} {i : Nat} {x : α} (h : l[i]? = some x) (hp : p x = false) : l.all p = false := by
  rw [List.all_eq_false]
  exact ⟨x, List.mem_of_getElem? h, by simp [hp]⟩
section
set_option maxHeartbeats 2000000
set_option maxRecDepth 100000
theorem areArr1_any (nm : List UInt8) (len : Int) (W : World) (hg : SignsIs W) (hn : nm.length ≤ 65536) :
    Calls Tryz.prog 113 #[.agg #[.string ⟨nm.toArray⟩, .int .i64 len]] W fun e w' => e = .returned (.bool (!PP.okArr ⟨nm, len⟩)) ∧ Below W.heap.size W w' := by
  have hnot : ∀ (x : Bool) (w : World), (Op.unary .not (.bool x)).run Tryz.prog w = .ok (.bool (!x)) w := fun _ _ => rfl
  have hb : Below W.heap.size W (W.alloc (.cells #[.string ⟨nm.toArray⟩, .int .i64 len] 52)) := (Below.refl _ _).alloc (Nat.le_refl _) _
  have hna := name_any ⟨nm.toArray⟩ _ (hg.below hb hg.pos) (by show nm.toArray.size ≤ maxLen; rw [List.size_toArray]; unfold maxLen; omega)
  have HK := Lib.hid (Blk.new W 52 #[.string ⟨nm.toArray⟩, .int .i64 len])
  have HB := Lib.hid hb
  have heq : PP.okArr ⟨nm, len⟩ = (PL.isName nm && !decide (len < 1) && !decide (32 < len)) := rfl
  generalize PP.okArr ⟨nm, len⟩ = R at *
  clear hb hg
  have hd : PL.isName (⟨nm.toArray⟩ : ByteArray).data.toList = PL.isName nm := rfl
  rw [hd] at hna
  cases hin : PL.isName nm with
  | false =>
    rw [hin] at hna heq
    have HC := Lib.hid hna
    have HR := Lib.hid (show R = false by rw [heq]; rfl)
    clear hna heq hin hd
    go_enter Tryz.func113, Tryz.ntmps113
    go_wp2_with fail
    refine HC.out.mono ?_
    rintro e w1 ⟨rfl, hb1⟩
    have HB1 := Lib.hid (HB.out.trans (hb1.mono HB.out.size))
    clear hb1
    go_wp2_with fail
    go_ret
    exact ⟨by rw [HR.out]; rfl, HB1.out⟩
  | true =>
    rw [hin] at hna heq
    have HC := Lib.hid hna
    have HR := Lib.hid (show R = (!decide (len < 1) && !decide (32 < len)) by rw [heq]; rfl)
    clear hna heq hin hd
    go_enter Tryz.func113, Tryz.ntmps113
    go_wp2_with fail
    refine HC.out.mono ?_
    rintro e w1 ⟨rfl, hb1⟩
    have k1 := Blk.below HK.out hb1
    have x1 := k1.two
    have hl := k1.lt
    have HB1 := Lib.hid (HB.out.trans (hb1.mono HB.out.size))
    clear hb1 k1 HK
    by_cases c1 : len < 1
    · have y1 : decide (len < 1) = true := by simpa using c1
      go_wp2_with fail
      go_ret
      exact ⟨by rw [HR.out, y1]; rfl, HB1.out⟩
    · have y1 : decide (len < 1) = false := by simpa using c1
      go_wp2_with fail
      go_ret
      exact ⟨by rw [HR.out, y1]; simp, HB1.out⟩
def ArrRel (ar : List ArrD) (w : World) (i : Value) (wr : World) : Prop := ∃ j : Nat, j ≤ ar.length ∧ i = .int .i64 (j : Int) ∧ (∀ l t, l < j → ar[l]? = some t → PP.okArr t = true) ∧ Below w.heap.size w wr
def NmArr (ar : List ArrD) : Prop := ∀ a ∈ ar, a.name.length ≤ 65536
theorem indexArr_any {w : World} {A : Option Addr} {ar : List ArrD} {c n : Nat} (hN : ar.length = n) (h : Row w A (arrCells ar)) (hl : n ≤ 1000000) (hg : SignsIs w) (hm : NmArr ar) :
    Calls Tryz.prog 137 #[.slice A n c, .func (.func 113) #[] #[]] w fun e w' => ∃ i : Int, e = .returned (.int .i64 i) ∧ decide (0 ≤ i) = !ar.all PP.okArr ∧ Below w.heap.size w w' := by
  have hcf := fun (u : Value) (W : World) => cf_areArrays1 u W
  have HH := Lib.hid h
  have HN := Lib.hid hN
  have HG := Lib.hid hg
  have HM := Lib.hid hm
  clear h hN hg hm
  go_enter Tryz.func137, Tryz.ntmps137
  go_wp2_with fail
  go_loopw [8] (fun i wr => ArrRel ar w i wr) (fun i _ => n - (intOf i).toNat)
  case atStart => exact ⟨0, Nat.zero_le _, rfl, fun l _ h => by omega, Below.refl _ _⟩
  case round =>
    obtain ⟨j, hj, rfl, hall, hbr⟩ := hrel
    rw [HN.out] at hj
    have hsz := hbr.size
    by_cases hlt : j < n
    · have hne : ar ≠ [] := by intro e; have := HN.out; rw [e] at this; simp at this; omega
      obtain ⟨b, o, rfl, hb, hc⟩ := HH.out.arr hne
      obtain ⟨a, ha⟩ : ∃ a, ar[j]? = some a := ⟨_, List.getElem?_eq_getElem (by rw [HN.out]; exact hlt)⟩
      have d0 := (hbr.cell (p := ⟨b, o + j * 2, none⟩) hb).trans (hc j a ha).1
      have d1 := (hbr.cell (p := ⟨b, o + j * 2 + 1, none⟩) hb).trans (hc j a ha).2
      have hgv : b < wr.heap.size := by omega
      have hcall := areArr1_any a.name a.len wr (HG.out.below hbr HG.out.pos) (HM.out a (List.mem_of_getElem? ha))
      have hgood : PP.okArr a = true → ∀ l t, l < j + 1 → ar[l]? = some t → PP.okArr t = true := by
        intro he l t hll h1
        rcases Nat.lt_or_ge l j with h | h
        · exact hall l t h h1
        · obtain rfl : l = j := by omega
          rw [ha] at h1
          injection h1 with h1
          subst h1; exact he
      have HGOOD := Lib.hid hgood
      have HBAD := Lib.hid (fun he : PP.okArr a = false => all_bad (p := PP.okArr) ha he)
      have p1 : (0 : Int) ≤ (j : Int) := by omega
      have p2 : (j : Int) < (n : Int) := by omega
      have hee : PP.okArr ⟨a.name, a.len⟩ = PP.okArr a := rfl
      rw [hee] at hcall
      clear hgood hall ha hc hne hee
      generalize a.name = anm at *
      generalize a.len = aln at *
      cases he : PP.okArr a with
      | true =>
        rw [he] at hcall
        have HC := Lib.hid hcall
        have HE2 := Lib.hid he
        clear hcall he
        go_wp2_with fail
        refine HC.out.mono ?_
        rintro e w2 ⟨rfl, hb2⟩
        have HB3 := Lib.hid (hbr.trans (hb2.mono hsz))
        clear hb2 d0 d1 HC
        go_wp2_with fail
        go_roundw
        case rel => exact ⟨j + 1, by rw [HN.out]; omega, by go_num, HGOOD.out HE2.out, HB3.out⟩
        case measure => simp [intOf]; omega
      | false =>
        rw [he] at hcall
        have HC := Lib.hid hcall
        have HE2 := Lib.hid (HBAD.out he)
        clear hcall he
        go_wp2_with fail
        refine HC.out.mono ?_
        rintro e w2 ⟨rfl, hb2⟩
        have HB3 := Lib.hid (hbr.trans (hb2.mono hsz))
        clear hb2 d0 d1 HC
        go_wp2_with fail
        go_ret
        exact ⟨_, rfl, by rw [HE2.out]; simp, HB3.out⟩
    · have HR := Lib.hid (all_at (p := PP.okArr) (l := ar) (fun i t h1 => hall i t (by have := (List.getElem?_eq_some_iff.1 h1).1; have := HN.out; omega) h1))
      clear hall
      go_wp2_with fail
      go_ret
      exact ⟨_, rfl, by rw [HR.out]; rfl, hbr⟩
theorem areArrays_any {w : World} {A : Option Addr} {ar : List ArrD} {c n : Nat} (hN : ar.length = n) (h : Row w A (arrCells ar)) (hl : n ≤ 1000000) (hg : SignsIs w) (hm : NmArr ar) :
    Calls Tryz.prog 61 #[.slice A n c] w fun e w' => e = .returned (.bool (ar.all PP.okArr)) ∧ Below w.heap.size w w' := by
  have hnot : ∀ (x : Bool) (w : World), (Op.unary .not (.bool x)).run Tryz.prog w = .ok (.bool (!x)) w := fun _ _ => rfl
  have hcon : Calls Tryz.prog 112 #[.slice A n c, .func (.func 113) #[] #[]] w fun e w' => e = .returned (.bool (!ar.all PP.okArr)) ∧ Below w.heap.size w w' := by
    have HC := Lib.hid (indexArr_any (c := c) hN h hl hg hm)
    clear h hN hg hm
    go_enter Tryz.func112, Tryz.ntmps112
    go_wp2_with fail
    refine HC.out.mono ?_
    rintro e w2 ⟨i, rfl, hi, hb2⟩
    go_wp2_with fail
    go_ret
    exact ⟨by rw [← hi]; rfl, hb2⟩
  have HC := Lib.hid hcon
  generalize ar.all PP.okArr = R at *
  clear hcon h hN hg hm
  go_enter Tryz.func61, Tryz.ntmps61
  go_wp2_with fail
  refine HC.out.mono ?_
  rintro e w2 ⟨rfl, hb2⟩
  go_wp2_with fail
  go_ret
  exact ⟨by simp, hb2⟩
end
end Go.Proofs.YtfakdbnfpdalhaaGreatDoor
