/- The contracts of word.Operators and of the parser's start. -/
import Derived.Test.YtaaaicpjlaeiiaaDoorParU
import Derived.Test.YtaaaicpjlaeiiaaDoorSol
namespace Go.Proofs.YtaaaicpjlaeiiaaDoor
open Go.RowKit Go.Maps Go.WideMaps Go.WideElems
open PP (Tree ArrD TaskD)

def opsCells (k : Nat) : List Value := (List.range k).map fun (i : Nat) => Value.int .u8 ((i : Int) + 6)
theorem opsCells_length (k : Nat) : (opsCells k).length = k := by simp [opsCells]
theorem opsCells_succ (k : Nat) : opsCells (k + 1) = opsCells k ++ [.int .u8 ((k : Int) + 6)] := by simp [opsCells, List.range_succ]
theorem opsCells_at (k i : Nat) (h : i < k) : (opsCells k)[i]? = some (.int .u8 ((i : Int) + 6)) := by simp [opsCells, h]
theorem infoByte : (Tryd.prog.info? 5).map (fun i => (i.zero, i.size, i.bytes)) = some (some (.int .u8 0), 1, 1) := by kernel_rfl

section
set_option maxHeartbeats 1000000
set_option maxRecDepth 100000
theorem operators_any (w : World) : Calls Tryd.prog 27 #[] w fun e w' => ∃ v, e = .returned v ∧ w'.ownsRow w.heap.size 5 1 v 18 (opsCells 18) ∧ Below w.heap.size w w' := by
  obtain ⟨i0, hi, hz0, hz1, hz2⟩ := info_parts infoByte
  have HI := Lib.hid hi
  have HZ0 := Lib.hid hz0
  have HZ1 := Lib.hid hz1
  have HZ2 := Lib.hid hz2
  clear hi hz0 hz1 hz2
  go_enter Tryd.func27, Tryd.ntmps27
  go_wp2_with fail
  go_loopw [1, 2] (fun v i wr => ∃ k : Nat, k ≤ 18 ∧ i = .int .u8 ((k : Int) + 6) ∧ wr.ownsRow w.heap.size 5 1 v k (opsCells k) ∧ Below w.heap.size w wr) (fun _ i _ => 24 - (intOf i).toNat)
  case atStart => exact ⟨0, by omega, rfl, World.ownsRow_nil _ _ _ _, Below.refl _ _⟩
  case round =>
    obtain ⟨k, hk, rfl, hown, hbel⟩ := hrel
    have hsz := hbel.size
    by_cases hlt : k < 18
    · have e1 : decide ((k : Int) + 6 ≤ 23) = true := by simp; omega
      go_wp2_with (at_builtin; refine wpList_append_lies _ rfl _ _ 43 rfl w.heap.size 5 i0 (.int .u8 0) 1 1 Tryd.underlying43 HI.out HZ0.out HZ1.out HZ2.out rfl (by decide) _ _ _ rfl (hown.alloc _) ⟨wr.heap.size, 0, none⟩ 1 1 [.int .u8 ((k : Int) + 6)] rfl rfl ?c1 ?c2 (by decide) ?c3 ?c4 ?c5 (wr.heap.size + 1) ?c6 ?_)
      case c1 => exact World.news_of_block (heap_alloc_new wr _)
      case c2 => intro u hu; simp at hu; subst hu; rfl
      case c3 => unfold maxLen; omega
      case c4 => omega
      case c5 => simp; omega
      case c6 => simp
      intro g cap w4 hown4 hg4 hat hlt4
      rw [← opsCells_succ] at hown4
      have hb4 : Below w.heap.size w w4 := Below.grown (hbel.alloc hsz _) hg4 (by simp; omega) (fun k hk => (hown.lt k hk).1)
      have HO := Lib.hid hown4
      clear hown4 hg4 hat hown
      go_wp2_with fail
      go_roundw
      case rel => exact ⟨k + 1, by omega, by go_num, HO.out, hb4⟩
      case measure => simp [intOf]; omega
    · obtain rfl : k = 18 := by omega
      go_wp2_with fail
      go_ret
      exact ⟨_, rfl, hown, hbel⟩
theorem cell_far_grown {w w' : World} {m g : Nat} {t : TypeId} {cs : Array Value} (h : Blk w g t cs) (hg : w.grownBy w' (some m)) (hne : g ≠ m) : Blk w' g t cs := (hg.block g h.lt (by simpa using hne)).trans h
/-- What the parser's start leaves. -/
def StartEnd (s : ByteArray) (w : World) (r : Ending) (w' : World) : Prop :=
  ∃ b X, r = .returned (.pointer (some ⟨b, 0, none⟩)) ∧ Gx w' b X ∧ PS w' b X ⟨(PL.lex s.data.toList).1.filter PL.solidT, s.size⟩ ⟨0, (PL.lex s.data.toList).2.1, (PL.lex s.data.toList).2.2⟩ ∧ Below w.heap.size w w' ∧ w.heap.size ≤ b
theorem OpsIs.below {w w' : World} (h : OpsIs w) (hb : Below w.heap.size w w') : OpsIs w' := by
  obtain ⟨t, fr, hs⟩ := h
  exact ⟨t, fr, (hb.block _ (Array.getElem?_eq_some_iff.1 hs).1).trans hs⟩
theorem OpsIs.lt {w : World} (h : OpsIs w) : 0 < w.heap.size := by
  obtain ⟨t, fr, hs⟩ := h
  exact (Array.getElem?_eq_some_iff.1 hs).1
def StartRel (w : World) (b m : Nat) (cs : Array Value) (A Ao : Option Addr) (co : Nat) (rs : List RT) (i : Value) (wr : World) : Prop :=
  ∃ k : Nat, k ≤ 18 ∧ i = .int .i64 (k : Int) ∧ wr.ownsMap Tryd.prog 9 (plainElem Tryd.prog 5) m k (opsD k) ∧ Blk wr b 109 cs ∧ RToks wr A rs ∧ (rs ≠ [] → ∀ a, A = some a → a.block < m) ∧
    wr.ownsRow (b + 1) 5 1 (.slice Ao 18 co) 18 (opsCells 18) ∧ Below w.heap.size w wr
theorem RToks.grown {w w' : World} {A : Option Addr} {rs : List RT} {m : Nat} (h : RToks w A rs) (hg : w.grownBy w' (some m)) (hm : rs ≠ [] → ∀ a, A = some a → a.block < m) : RToks w' A rs := fun hn => by
  obtain ⟨b, o, rfl, hlt, hc⟩ := h hn
  have hb := hg.block b hlt (by have := hm hn _ rfl; simp only [ne_eq, Option.some.injEq]; intro e; simp only at this; omega)
  refine ⟨b, o, rfl, Nat.lt_of_lt_of_le hlt hg.size, fun i r hi => ?_⟩
  obtain ⟨h0, h1, h2⟩ := hc i r hi
  exact ⟨(World.cell?_of_block (a := ⟨b, o + i * 3, none⟩) hb).trans h0, (World.cell?_of_block (a := ⟨b, o + i * 3 + 1, none⟩) hb).trans h1, (World.cell?_of_block (a := ⟨b, o + i * 3 + 2, none⟩) hb).trans h2⟩
end
section
set_option maxHeartbeats 2000000
set_option maxRecDepth 100000
attribute [local go_sem ↓] Go.wp_at_zero Go.wp_at_succ
theorem start_any (s : ByteArray) (w : World) (hs : s.size ≤ maxLen) (hg : SignsIs w) (hO : OpsIs w) : Calls Tryd.prog 60 #[.string s] w (StartEnd s w) := by
  have hmm := @run_makeMap Tryd.prog
  have hlx := lex_any s w hg hs
  have hsl : s.data.toList.length = s.size := Array.length_toList
  have hcnt : (PL.lex s.data.toList).1.length ≤ 65536 ∧ (∀ t ∈ (PL.lex s.data.toList).1, t.text.length ≤ 65536) := by
    generalize hX : PL.lex s.data.toList = X
    obtain ⟨ts, p, e⟩ := X
    by_cases he : e = 0
    · subst he
      have h1 := (PL.lex_ok hX rfl).1
      have h2 := PL.lex_count hX
      exact ⟨by simp only; omega, fun t ht => by have := PL.tok_len hX t ht; omega⟩
    · by_cases hl : s.data.toList.length ≤ 65536
      · obtain ⟨rfl, _, _⟩ := PL.lex_error hX he hl
        exact ⟨by simp, fun t ht => by simp at ht⟩
      · rw [PL.lex_full (by omega)] at hX
        injection hX with hX _
        subst hX
        exact ⟨by simp, fun t ht => by simp at ht⟩
  unfold LexEnd at hlx
  unfold maxLen at hs
  generalize hX : PL.lex s.data.toList = X at *
  obtain ⟨ts, p, er⟩ := X
  have HX := Lib.hid hX
  obtain ⟨hc1, hc2⟩ := hcnt
  have HC1 := Lib.hid hc1
  have HC2 := Lib.hid hc2
  have HLX := Lib.hid hlx
  have HG := Lib.hid hg
  have HO := Lib.hid hO
  clear hX hlx hc1 hc2 hg hO hsl
  simp only [] at HLX HC1 HC2
  go_enter Tryd.func60, Tryd.ntmps60
  go_wp2_with fail
  refine HLX.out.mono ?_
  rintro e w1 ⟨v1, rfl, ho1, hb1⟩
  obtain ⟨A1, c1, rfl, hr1⟩ := own_rt ho1
  have HSO := Lib.hid (solid_toks A1 ts.length c1 ts w1 rfl hr1 HC1.out)
  clear ho1 hr1 HLX
  go_wp2_with fail
  refine HSO.out.mono ?_
  rintro e w2 ⟨A2, c2, rfl, hr2, hb2⟩
  have hB2 := hb1.trans (hb2.mono hb1.size)
  have HR2 := Lib.hid hr2
  have HB2 := Lib.hid hB2
  clear hr2 hb1 hb2 hB2 HSO
  go_wp2_with fail
  have hws := HB2.out.size
  refine (operators_any _).mono ?_
  rintro e w4 ⟨v4, rfl, ho4, hb4⟩
  obtain ⟨Ao, co, rfl⟩ := own_form ho4
  have hsz4 : ((w2.alloc (.map #[] 0)).alloc (.cells #[.slice A2 (List.filter PL.solidT ts).length c2, .int .i64 0, .int .i64 (s.size : Int), .map (some w2.heap.size), .int .i64 (p : Int), .int .i64 (er : Int)] 109)).heap.size = w2.heap.size + 1 + 1 := by simp
  rw [hsz4] at ho4 hb4
  have hmap : w4.ownsMap Tryd.prog 9 (plainElem Tryd.prog 5) w2.heap.size 0 (opsD 0) :=
    ((World.ownsMap_made w2 _ _ _).alloc _).kept (row := none) (grown_of_below (hsz4 ▸ hb4) none) (by simp)
  have hblk : Blk w4 (w2.heap.size + 1) 109 #[.slice A2 (List.filter PL.solidT ts).length c2, .int .i64 0, .int .i64 (s.size : Int), .map (some w2.heap.size), .int .i64 (p : Int), .int .i64 (er : Int)] :=
    (hb4.block _ (by omega)).trans (by have := Blk.new (w2.alloc (.map #[] 0)) 109 #[.slice A2 (List.filter PL.solidT ts).length c2, .int .i64 0, .int .i64 (s.size : Int), .map (some w2.heap.size), .int .i64 (p : Int), .int .i64 (er : Int)]; simpa [Blk] using this)
  have hbb : Below w2.heap.size w2 w4 := (((Below.refl w2.heap.size w2).alloc (Nat.le_refl _) _).alloc (by simp) _).trans (hb4.mono (by omega))
  have hrt : RToks w4 A2 ((List.filter PL.solidT ts).map rtOf) := HR2.out.below hbb
  have hrlt : (List.filter PL.solidT ts).map rtOf ≠ [] → ∀ a, A2 = some a → a.block < w2.heap.size := by
    intro hn a ha
    obtain ⟨b, o, h1, h2, _⟩ := HR2.out hn
    rw [h1] at ha
    injection ha with ha
    subst ha; exact h2
  have hB4 : Below w.heap.size w w4 := HB2.out.trans (hbb.mono hws)
  have HREL := Lib.hid (show StartRel w (w2.heap.size + 1) w2.heap.size _ A2 Ao co _ (.int .i64 0) w4 from ⟨0, by omega, rfl, hmap, hblk, hrt, hrlt, ho4, hB4⟩)
  generalize w2.heap.size = m at *
  clear hmap hblk hbb hrt hrlt hB4 ho4 hb4 hsz4 HR2 HB2
  go_wp2_with fail
  go_loopw [26] (fun i wr => StartRel w (m + 1) m #[.slice A2 (List.filter PL.solidT ts).length c2, .int .i64 0, .int .i64 (s.size : Int), .map (some m), .int .i64 (p : Int), .int .i64 (er : Int)] A2 Ao co ((List.filter PL.solidT ts).map rtOf) i wr) (fun i _ => 18 - (intOf i).toNat)
  case atStart => exact HREL.out
  case round =>
    obtain ⟨k, hk, rfl, hmap, hblk, hrt, hrlt, hown, hbel⟩ := hrel
    have HMAP := Lib.hid hmap
    have HBLK := Lib.hid hblk
    have HRT := Lib.hid hrt
    have HRLT := Lib.hid hrlt
    have HOWN := Lib.hid hown
    have HBEL := Lib.hid hbel
    by_cases hlt : k < 18
    · obtain ⟨g, cap, hv, hg1, hg2, hg3, hcc⟩ := own_cells hown (by omega)
      have hck := hcc k _ (opsCells_at 18 k hlt)
      injection hv with hv1 hv2 hv3
      subst hv1 hv3
      have c3 : wr.cell? ⟨m + 1, 3, none⟩ = some (.map (some m)) := hblk.cell 3
      have hsy := fun (W : World) (hW : OpsIs W) => (show Calls Tryd.prog 29 #[.int .u8 ((k : Int) + 6)] W fun e w' => e = .returned (.string ⟨(PP.symbol (k + 6)).toArray⟩) ∧ W = w' from symbol_any (k + 6) W hW (by omega))
      have HSY := Lib.hid (hsy wr (HO.out.below hbel))
      have HSYd := Lib.hid (hsy wr.drew (HO.out.below (below_drewN hbel 1)))
      have hkl : (PP.symbol (k + 6)).length ≤ 2 := by
        have : ∀ i, i < 18 → (PP.symbol (i + 6)).length ≤ 2 := by decide
        exact this k hlt
      have hkey : keyOf Tryd.prog 9 (.string ⟨(PP.symbol (k + 6)).toArray⟩) = some (.string (PP.symbol (k + 6))) := keyOf_string_mk Tryd.underlying9 (by show (PP.symbol (k + 6)).toArray.size ≤ _; rw [List.size_toArray]; unfold maxLen; omega)
      have hval : plainElem (H := Unit) Tryd.prog 5 (.int .u8 ((k : Int) + 6)) = some (.lit (.int .u8 ((k : Int) + 6)), []) := plainElem_int Tryd.underlying5 (WalkArith.wf_u8 ⟨by omega, by omega⟩)
      have HKEY := Lib.hid hkey
      have HVAL := Lib.hid hval
      have p1 : (0 : Int) ≤ (k : Int) := by omega
      have p2 : (k : Int) < 18 := by omega
      clear hmap hblk hrt hrlt hown hbel hcc hsy hkey hval hkl
      go_wp2_with fail
      obtain ⟨w7, hrun7, hm7, hg7⟩ := (HMAP.out.drew).update (Maps.string_keyed Tryd.underlying9) Tryd.underlying107 (by unfold maxLen; omega) HKEY.out HVAL.out
      have HM7 := Lib.hid hm7
      have HG7 := Lib.hid hg7
      clear hm7 hg7
      go_region_law (first | (go_simp; go_at_call 29; (first | (with_reducible refine HSY.out.mono ?_) | (with_reducible refine HSYd.out.mono ?_)); rintro e w5 ⟨rfl, rfl⟩))
      all_goals
        have hm7 := HM7.out
        have hg7 := HG7.out
        have hg7' : wr.grownBy w7 (some m) := ⟨hg7.os, hg7.tape, hg7.output, hg7.size, hg7.block⟩
        have hm7' : w7.ownsMap Tryd.prog 9 (plainElem Tryd.prog 5) m (k + 1) (opsD (k + 1)) := hm7
        have hB := HBLK.out
        have hbl7 : Below w.heap.size w w7 := Below.grown HBEL.out hg7' HBEL.out.size (fun j hj => by injection hj with hj; omega)
        have HREL7 := Lib.hid (show StartRel w (m + 1) m _ A2 (some ⟨g, 0, none⟩) co _ (.int .i64 ((k : Int) + 1)) w7 from ⟨k + 1, by omega, by go_num, hm7', cell_far_grown hB hg7' (by omega), HRT.out.grown hg7' HRLT.out, HRLT.out, HOWN.out.kept hg7' (by right; intro e; have := (HOWN.out.lt _ e).1; omega), hbl7⟩)
        clear hm7 hm7' hg7 hg7' hB hbl7 hck c3
        go_wp2_with fail
        go_roundw
        case rel => first | exact HREL7.out | ((repeat apply Exists.intro); exact ⟨HREL7.out, rfl⟩)
        case measure => simp [intOf]; omega
    · obtain rfl : k = 18 := by omega
      clear hmap hblk hrt hrlt hown hbel
      go_wp2_with fail
      go_ret
      have hw := HBEL.out.size
      refine ⟨m + 1, ⟨A2, c2, m⟩, rfl, ⟨⟨HG.out.below HBEL.out HG.out.pos, by have := HG.out.pos; omega⟩, HO.out.below HBEL.out, by have := HO.out.lt; omega, HMAP.out, by show m ≠ m + 1; omega⟩, ?_, HBEL.out, by omega⟩
      rw [HX.out]
      refine ⟨HBLK.out, fun i t hi => ?_, ?_, fun t ht => HC2.out t (List.mem_filter.1 ht).1, Nat.zero_le _⟩
      · have hi' : (List.map rtOf (List.filter PL.solidT ts))[i]? = some (rtOf t) := by rw [List.getElem?_map]; simp only at hi; rw [hi]; rfl
        have hne : List.map rtOf (List.filter PL.solidT ts) ≠ [] := by intro e; rw [e] at hi'; simp at hi'
        obtain ⟨g, o, hA, hlt', hc⟩ := HRT.out hne
        obtain ⟨x0, x1, x2⟩ := hc i _ hi'
        have := HRLT.out hne _ hA
        exact ⟨g, o, hA, by simp only at this; omega, hlt', x0, x1, x2⟩
      · have := List.length_filter_le PL.solidT ts
        have := HC1.out
        simp only; omega
end
end Go.Proofs.YtaaaicpjlaeiiaaDoor
