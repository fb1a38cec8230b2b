/- The reference's selection. -/
import Derived.Test.YtehdgdlndlamjaaAuM
import Derived.Test.YtehdgdlndlamjaaPlainAu5
import Derived.Test.YtehdgdlndlamjaaSlZ3
import Derived.Maps.AppendAt
import Derived.Deep.AppendLies
import Derived.Deep.RegionLaw
namespace Go.Proofs.Ytehdgdlndlamjaa
open Go.RowKit Go.Maps Go.Sort Go.Lib
open SL (Tk Cd)
open AU (Pr Rq Ev Mo)
theorem rcC_len (l : List Cd) : (rcC l).length = l.length * 5 := flat_len 5 rcL (fun _ => rfl) l
theorem rcC_one (l : List Cd) : ∀ u ∈ rcC l, u.oneCell' = true := by
  intro u hu
  obtain ⟨c, _, hc⟩ := List.mem_flatMap.1 hu
  simp [rcL] at hc
  rcases hc with rfl | rfl | rfl | rfl | rfl <;> rfl
theorem rcC_append (a b : List Cd) : rcC (a ++ b) = rcC a ++ rcC b := by simp [rcC]
set_option maxRecDepth 100000 in
theorem append_rc {w : World} {base : Nat} {v : Value} {acc : List Cd} (ho : w.ownsRow base 84 5 v acc.length (rcC acc)) {A : Option Addr} {l : List Cd} {c m : Nat} (hk : Row w A (rcC l)) (hb : base ≤ w.heap.size) (hm : l.length = m) (hlen : acc.length + m ≤ 1000000) (ty : TypeId) :
    ∃ v' w', (Builtin.append_ #[80, 80] ty #[v, .slice A m c]).run Try.prog w = .ok v' w' ∧ w'.ownsRow base 84 5 v' (acc ++ l).length (rcC (acc ++ l)) ∧ Below base w w' := by
  obtain ⟨i0, hi, hz0, hz1, hz2⟩ := info_parts infoRc
  subst hm
  by_cases he : l = []
  · subst he
    refine ⟨v, w, ?_, by simpa using ho, Below.refl _ _⟩
    have hlc : ∀ a (w : World), Sem.run Try.prog (loadCells a 0) w = .ok #[] w := fun _ _ => rfl
    rcases ho.2 with ⟨rfl, _⟩ | ⟨g, cap, cur, rfl, _, _, hnc, _⟩
    · cases A <;> simp [Builtin.append_, run_underlying (P := Try.prog) Try.underlying80, sizeOf, typeInfo, hi, Builtin.lenOf, Builtin.firstCells, hlc]
    · cases A <;> simp [Builtin.append_, run_underlying (P := Try.prog) Try.underlying80, sizeOf, typeInfo, hi, Builtin.lenOf, Builtin.firstCells, hnc, storeCells, hlc]
  · obtain ⟨b, o, rfl, hlt, hcell⟩ := hk (by intro e; have := congrArg List.length e; rw [rcC_len] at this; simp at this; exact he (List.length_eq_zero_iff.1 (by omega)))
    have hl0 : 0 < l.length := List.length_pos_iff.2 he
    obtain ⟨v', w', hr, hown', hg, _, hat⟩ := run_append_own_at (P := Try.prog) w base 80 ty 84 i0 (.agg #[.int .i64 0, .int .i64 0, .int .i64 0, .int .i64 0, .int .i64 0]) 5 40 Try.underlying80 hi hz0 hz1 hz2 rfl (by decide) v acc.length (rcC acc) ho ⟨b, o, none⟩ l.length c (rcC l) (by rw [rcC_len]) (fun j u hj => by
      have hadd : (⟨b, o, none⟩ : Addr).add j = ⟨b, o + j, none⟩ := by unfold Addr.add; split <;> simp_all
      rw [hadd]
      exact hcell j u hj) (rcC_one l) (by unfold maxLen; omega) (by omega) hb
    refine ⟨v', w', hr, ?_, (Below.refl _ _).grown hg hb (fun k hk => (ho.lt k hk).1)⟩
    rw [List.length_append, rcC_append]
    exact hown'
theorem step_append_rc {ops : Array Oper} {o : Oper} {a : Act} {K : Act → World → Prop} {Q : Exit → Act → World → Prop} {E : Prop} {w : World} (hgd : o.guard = none) (s x : Operand)
    (ho : o.op = .call { callee := .builtin .append, args := #[s, x], argTypes := #[80, 80] })
    {base : Nat} {v : Value} {acc : List Cd} (hs : a.eval s = v) (hown : w.ownsRow base 84 5 v acc.length (rcC acc)) {A : Option Addr} {l : List Cd} {c m : Nat} (hx : a.eval x = .slice A m c) (hk : Row w A (rcC l)) (hb : base ≤ w.heap.size) (hm : l.length = m) (hlen : acc.length + m ≤ 1000000)
    (h : ∀ v' w', w'.ownsRow base 84 5 v' (acc ++ l).length (rcC (acc ++ l)) → Below base w w' → K (a.put o.dst v') w') :
    if Region.wanted o (yielded ops a.tmps) = true then Oper.wp Try.prog o a w K Q else E := by
  have hw : Region.wanted o (yielded ops a.tmps) = true := by simp [Region.wanted, hgd]
  rw [if_pos hw]
  obtain ⟨v', w', hr, h2, h3⟩ := append_rc hown hk hb hm hlen o.type (c := c)
  unfold Oper.wp execOp
  simp only [ho, resolve, invoke, builtin, Sem.run_bind, Sem.run_pure, Result.andThen_ok, List.map_toArray, List.map_cons, List.map_nil, hs, hx, hr]
  exact h v' w' h2 h3
theorem rc_take {w : World} {b o k : Nat} {l : List Cd} (h : Row w (some ⟨b, o, none⟩) (rcC l)) : Row w (some ⟨b, o, none⟩) (rcC (l.take k)) := fun hn => by
  have hs : rcC l = rcC (l.take k) ++ rcC (l.drop k) := by rw [← rcC_append, List.take_append_drop]
  obtain ⟨b', o', e, hb, hc⟩ := h (by rw [hs]; simp [hn])
  injection e with e
  injection e with e1 e2
  subst e1 e2
  refine ⟨_, _, rfl, hb, fun i v hi => hc i v ?_⟩
  have hlt := (List.getElem?_eq_some_iff.1 hi).1
  rw [hs, List.getElem?_append_left hlt]
  exact hi
theorem rc_drop {w : World} {b o k : Nat} {l : List Cd} (h : Row w (some ⟨b, o, none⟩) (rcC l)) (hk : k ≤ l.length) : Row w (some ⟨b, o + k * 5, none⟩) (rcC (l.drop k)) := fun hn => by
  have hs : rcC l = rcC (l.take k) ++ rcC (l.drop k) := by rw [← rcC_append, List.take_append_drop]
  have hl : (rcC (l.take k)).length = k * 5 := by rw [rcC_len, List.length_take]; omega
  obtain ⟨b', o', e, hb, hc⟩ := h (by rw [hs]; simp [hn])
  injection e with e
  injection e with e1 e2
  subst e1 e2
  refine ⟨_, _, rfl, hb, fun i v hi => ?_⟩
  have := hc (k * 5 + i) v (by rw [hs, List.getElem?_append_right (by omega), hl, show k * 5 + i - k * 5 = i from by omega]; exact hi)
  rwa [← Nat.add_assoc] at this
theorem own_empty (w : World) (e : TypeId) (size : Nat) : (w.alloc (.cells #[] e)).ownsRow w.heap.size e size (.slice (some ⟨w.heap.size, 0, none⟩) 0 0) 0 [] :=
  ⟨by simp, .inr ⟨w.heap.size, 0, #[], rfl, Nat.le_refl _, Blk.new w _ _, Nat.le_refl _, by decide, by simp, by simp⟩⟩
theorem Row.grown {w w' : World} {b o : Nat} {xs : List Value} {row : Option Nat} (h : Row w (some ⟨b, o, none⟩) xs) (hg : w.grownBy w' row) (hr : row ≠ some b) : Row w' (some ⟨b, o, none⟩) xs := fun hn => by
  obtain ⟨b', o', e, hb, hc⟩ := h hn
  injection e with e
  injection e with e1 e2
  subst e1 e2
  refine ⟨_, _, rfl, Nat.lt_of_lt_of_le hb hg.size, fun i v hi => ?_⟩
  have h1 := hc i v hi
  have h2 := hg.block b hb (fun e => hr e.symm)
  unfold World.cell? at h1 ⊢
  rw [h2]
  exact h1
def slen (v : Value) : Nat := match v with
  | .slice _ n _ => n
  | _ => 0
/-- Midway through the selection. -/
def SRel (w : World) (n : Nat) (l0 : List Cd) (lv ov : Value) (wr : World) : Prop :=
  ∃ (lc acc : List Cd) (A : Option Addr) (c : Nat), lv = .slice A lc.length c ∧ lc.length ≤ c ∧ Row wr A (rcC lc) ∧ (∀ b o, A = some ⟨b, o, none⟩ → ov.ownBlock ≠ some b) ∧ wr.ownsRow w.heap.size 84 5 ov acc.length (rcC acc) ∧ Below w.heap.size w wr ∧
    acc ++ AU.selN (n - acc.length) lc = AU.selN n l0 ∧ acc.length ≤ n ∧ (∀ x ∈ lc, okC x) ∧ lc.length ≤ 40
section
set_option maxHeartbeats 4000000
set_option maxRecDepth 100000
theorem rselect_any (l0 : List Cd) (A0 : Option Addr) (c0 n : Nat) (w : World) (h : Row w A0 (rcC l0)) (hc : l0.length ≤ c0) (hok : ∀ x ∈ l0, okC x) (hl : l0.length ≤ 40) (hn : n ≤ 8) :
    Calls Try.prog 35 #[.slice A0 l0.length c0, .int .i64 (n : Int)] w fun e w' => ∃ v, e = .returned v ∧ w'.ownsRow w.heap.size 84 5 v (AU.selN n l0).length (rcC (AU.selN n l0)) ∧ Below w.heap.size w w' := by
  obtain ⟨i1, ki, kz0, kz1, kz2⟩ := info_parts infoRc
  have K0 := Lib.hid ki
  have K1 := Lib.hid kz0
  have K2 := Lib.hid kz1
  have K3 := Lib.hid kz2
  have mixed : Try.prog.follows .mixedOrders = true := by kernel_rfl
  have HD0 := Lib.hid (show SRel w n l0 (.slice A0 l0.length c0) (.slice none 0 0) w from ⟨l0, [], A0, c0, rfl, hc, h, fun _ _ _ => by simp [Value.ownBlock], World.ownsRow_nil _ _ _ _, Below.refl _ _, by simp, by simp, hok, hl⟩)
  have HBF := Lib.hid (fun (a b : Cd) (W : World) (ha : okC a) (hb : okC b) => (show Calls Try.prog 40 #[.agg #[.int .i64 (a.num : Int), .int .i64 a.tk.cost, .int .i64 a.tk.per, .int .i64 a.rel, .int .i64 a.idx], .agg #[.int .i64 (b.num : Int), .int .i64 b.tk.cost, .int .i64 b.tk.per, .int .i64 b.rel, .int .i64 b.idx]] W _ from rbefore_any a b W ha hb))
  clear ki kz0 kz1 kz2 h hc hok hl
  go_enter Try.func35, Try.ntmps35
  go_wp2_with fail
  go_loopw [0, 5] (fun lv ov wr => SRel w n l0 lv ov wr) (fun _ ov _ => n - slen ov)
  case atStart => exact HD0.out
  case round =>
    clear HD0
    obtain ⟨lc, acc, A, c, rfl, hcap, hrow, hdis, hown, hbw, hsel, hacc, hok, hl40⟩ := hrel
    obtain ⟨A5, c5, rfl⟩ := own_form hown
    have HR := Lib.hid hrow
    have HO := Lib.hid hown
    have HB := Lib.hid hbw
    have HS := Lib.hid hsel
    have HOK := Lib.hid hok
    have HDI := Lib.hid hdis
    clear hrow hown hbw hsel hok hdis
    by_cases h0 : lc.length = 0
    · have q0 : ¬ (0 : Int) < (lc.length : Int) := by omega
      have q1 : ¬ 0 < lc.length := by omega
      have hle : lc = [] := List.length_eq_zero_iff.1 h0
      have hs2 := HS.out
      rw [hle, show AU.selN (n - acc.length) [] = [] from by cases (n - acc.length) <;> simp [AU.selN], List.append_nil] at hs2
      have HS2 := Lib.hid hs2
      clear h0 hle hs2 HS
      go_wp2_with fail
      go_ret
      rw [← HS2.out]
      exact ⟨_, rfl, HO.out, HB.out⟩
    · have q0 : (0 : Int) < (lc.length : Int) := by omega
      have q1 : 0 < lc.length := by omega
      by_cases hfull : acc.length < n
      · have q2 : (acc.length : Int) < (n : Int) := by omega
        clear h0
        go_wp2_with fail
        go_loopw [6, 7] (fun kv iv wx => ∃ i : Nat, 1 ≤ i ∧ i ≤ lc.length ∧ kv = .int .i64 (AU.minT lc (i - 1) : Int) ∧ iv = .int .i64 (i : Int) ∧ Gr wr wx) (fun _ iv _ => lc.length + 1 - (intOf iv).toNat)
        case atStart => exact ⟨1, Nat.le_refl _, by omega, rfl, rfl, Gr.refl _⟩
        case round =>
          obtain ⟨i, hi1, hi, rfl, rfl, hg⟩ := hrel
          have hmk := AU.minT_le lc (i - 1)
          by_cases hjl : i < lc.length
          · have q3 : (i : Int) < (lc.length : Int) := by omega
            obtain ⟨a, ha⟩ : ∃ a, lc[i]? = some a := ⟨_, List.getElem?_eq_getElem hjl⟩
            obtain ⟨b, hb⟩ : ∃ b, lc[AU.minT lc (i - 1)]? = some b := ⟨_, List.getElem?_eq_getElem (by omega)⟩
            have hms := AU.minT_succ (j := i - 1) (show lc[i - 1 + 1]? = some a by rw [show i - 1 + 1 = i from by omega]; exact ha) hb
            rw [show i - 1 + 1 = i from by omega] at hms
            have HMS := Lib.hid hms
            clear hms
            have HBE := Lib.hid (fun W => HBF.out a b W (HOK.out a (List.mem_of_getElem? ha)) (HOK.out b (List.mem_of_getElem? hb)))
            obtain ⟨gb, go, rfl, _, _⟩ := rc_at (HR.out.below hg.1) ha
            have hca := fun n os => rc_at ((HR.out.below hg.1).below (gr_grown (Gr.refl wr) n os).1) ha
            have hcb := fun n os => rc_at ((HR.out.below hg.1).below (gr_grown (Gr.refl wr) n os).1) hb
            generalize AU.minT lc (i - 1) = k at *
            have q4 : (k : Int) < (lc.length : Int) := by omega
            have x0 : ∀ n os, (grow (wr.drewN n) os).cell? ⟨gb, go + i * 5, none⟩ = some (.int .i64 (a.num : Int)) := fun n os => by obtain ⟨b', o', e, _, g0, g1, g2, g3, g4⟩ := hca n os; injection e with e; injection e with e1 e2; subst e1 e2; exact g0
            have x1 : ∀ n os, (grow (wr.drewN n) os).cell? ⟨gb, go + i * 5 + 1, none⟩ = some (.int .i64 a.tk.cost) := fun n os => by obtain ⟨b', o', e, _, g0, g1, g2, g3, g4⟩ := hca n os; injection e with e; injection e with e1 e2; subst e1 e2; exact g1
            have x2 : ∀ n os, (grow (wr.drewN n) os).cell? ⟨gb, go + i * 5 + 2, none⟩ = some (.int .i64 a.tk.per) := fun n os => by obtain ⟨b', o', e, _, g0, g1, g2, g3, g4⟩ := hca n os; injection e with e; injection e with e1 e2; subst e1 e2; exact g2
            have x3 : ∀ n os, (grow (wr.drewN n) os).cell? ⟨gb, go + i * 5 + 3, none⟩ = some (.int .i64 a.rel) := fun n os => by obtain ⟨b', o', e, _, g0, g1, g2, g3, g4⟩ := hca n os; injection e with e; injection e with e1 e2; subst e1 e2; exact g3
            have x4 : ∀ n os, (grow (wr.drewN n) os).cell? ⟨gb, go + i * 5 + 4, none⟩ = some (.int .i64 a.idx) := fun n os => by obtain ⟨b', o', e, _, g0, g1, g2, g3, g4⟩ := hca n os; injection e with e; injection e with e1 e2; subst e1 e2; exact g4
            have y0 : ∀ n os, (grow (wr.drewN n) os).cell? ⟨gb, go + k * 5, none⟩ = some (.int .i64 (b.num : Int)) := fun n os => by obtain ⟨b', o', e, _, g0, g1, g2, g3, g4⟩ := hcb n os; injection e with e; injection e with e1 e2; subst e1 e2; exact g0
            have y1 : ∀ n os, (grow (wr.drewN n) os).cell? ⟨gb, go + k * 5 + 1, none⟩ = some (.int .i64 b.tk.cost) := fun n os => by obtain ⟨b', o', e, _, g0, g1, g2, g3, g4⟩ := hcb n os; injection e with e; injection e with e1 e2; subst e1 e2; exact g1
            have y2 : ∀ n os, (grow (wr.drewN n) os).cell? ⟨gb, go + k * 5 + 2, none⟩ = some (.int .i64 b.tk.per) := fun n os => by obtain ⟨b', o', e, _, g0, g1, g2, g3, g4⟩ := hcb n os; injection e with e; injection e with e1 e2; subst e1 e2; exact g2
            have y3 : ∀ n os, (grow (wr.drewN n) os).cell? ⟨gb, go + k * 5 + 3, none⟩ = some (.int .i64 b.rel) := fun n os => by obtain ⟨b', o', e, _, g0, g1, g2, g3, g4⟩ := hcb n os; injection e with e; injection e with e1 e2; subst e1 e2; exact g3
            have y4 : ∀ n os, (grow (wr.drewN n) os).cell? ⟨gb, go + k * 5 + 4, none⟩ = some (.int .i64 b.idx) := fun n os => by obtain ⟨b', o', e, _, g0, g1, g2, g3, g4⟩ := hcb n os; injection e with e; injection e with e1 e2; subst e1 e2; exact g4
            have HG := Lib.hid hg
            generalize SL.bef a b = bf at *
            clear hca hcb ha hb hg
            go_wp2_with fail
            go_quiet_grown (first | (go_at_call 40; exact Calls.grown_of (Calls.gr (HBE.out _))))
            have HG2 := Lib.hid (gr_grown HG.out nq osq)
            clear x0 x1 x2 x3 x4 y0 y1 y2 y3 y4 HG
            cases bf with
            | false =>
              go_wp2_with fail
              refine ⟨⟨i + 1, by omega, hjl, ?_, by simp, HG2.out⟩, by simp [intOf]; omega⟩
              rw [show i + 1 - 1 = i from by omega, HMS.out]
              simp
            | true =>
              go_wp2_with fail
              refine ⟨⟨i + 1, by omega, hjl, ?_, by simp, HG2.out⟩, by simp [intOf]; omega⟩
              rw [show i + 1 - 1 = i from by omega, HMS.out]
              simp
          · have hie : i = lc.length := by omega
            subst hie
            obtain ⟨m, hm⟩ : ∃ m, lc[AU.minT lc (lc.length - 1)]? = some m := ⟨_, List.getElem?_eq_getElem (by omega)⟩
            have hsel2 : AU.selN (n - acc.length) lc = m :: AU.selN (n - (acc.length + 1)) (lc.take (AU.minT lc (lc.length - 1)) ++ lc.drop (AU.minT lc (lc.length - 1) + 1)) := by
              rw [show n - acc.length = (n - (acc.length + 1)) + 1 from by omega, AU.selN, hm]
            have hs2 := HS.out
            rw [hsel2] at hs2
            have HS2 := Lib.hid hs2
            obtain ⟨gb, go, rfl, hgb, x0, x1, x2, x3, x4⟩ := rc_at (HR.out.below hg.1) hm
            have hkl : AU.minT lc (lc.length - 1) < lc.length := by omega
            generalize AU.minT lc (lc.length - 1) = k at *
            have q3 : (k : Int) < (lc.length : Int) := by omega
            have HRW := Lib.hid (HR.out.below hg.1)
            have HOW := Lib.hid (own_below HO.out hg.1)
            have hbw := HB.out.trans (hg.1.mono HB.out.size)
            have HBW := Lib.hid hbw
            have hsw := hbw.size
            clear hg hs2 hsel2 hm hbw HS HR HO HB hjl
            go_wp2_with (at_builtin; refine wpList_append_own_at _ rfl _ _ 80 rfl w.heap.size 84 i1 (.agg #[.int .i64 0, .int .i64 0, .int .i64 0, .int .i64 0, .int .i64 0]) 5 40 Try.underlying80 K0.out K1.out K2.out K3.out rfl (by decide) _ _ _ rfl (HOW.out.alloc _) ⟨wr.heap.size, 0, none⟩ 1 1 [.int .i64 (m.num : Int), .int .i64 m.tk.cost, .int .i64 m.tk.per, .int .i64 m.rel, .int .i64 m.idx] rfl rfl ?c1 ?c2 ?c3 ?c4 ?c5 ?_)
            case c1 => exact World.news_of_block (cs := #[.int .i64 (m.num : Int), .int .i64 m.tk.cost, .int .i64 m.tk.per, .int .i64 m.rel, .int .i64 m.idx]) (heap_alloc_new wr _)
            case c2 => intro u hu; simp at hu; rcases hu with rfl | rfl | rfl | rfl | rfl <;> rfl
            case c3 => unfold maxLen; omega
            case c4 => omega
            case c5 => simp; omega
            intro v' w6 hown6 hg6 _ hat6
            have HO6 := Lib.hid (show w6.ownsRow w.heap.size 84 5 v' (acc ++ [m]).length (rcC (acc ++ [m])) from (by
              rw [rcC_append, List.length_append]
              exact hown6))
            have HRB6 := Lib.hid (Row.grown (HRW.out.below ((Below.refl wr.heap.size wr).alloc (Nat.le_refl _) (.cells #[.int .i64 (m.num : Int), .int .i64 m.tk.cost, .int .i64 m.tk.per, .int .i64 m.rel, .int .i64 m.idx] 84))) hg6 (HDI.out gb go rfl))
            have hlt6 := (HOW.out.alloc (.cells #[.int .i64 (m.num : Int), .int .i64 m.tk.cost, .int .i64 m.tk.per, .int .i64 m.rel, .int .i64 m.idx] 84)).lt
            have HB6 := Lib.hid (show Below w.heap.size w w6 from Below.grown (HBW.out.alloc hsw (.cells #[.int .i64 (m.num : Int), .int .i64 m.tk.cost, .int .i64 m.tk.per, .int .i64 m.rel, .int .i64 m.idx] 84)) hg6 (by simp; omega) (fun k hk => (hlt6 k hk).1))
            have hs6 := HB6.out.size
            have HLT := Lib.hid (show ∀ q, v'.ownBlock = some q → q < w6.heap.size from fun q hq => (hown6.lt q hq).2)
            obtain ⟨A6, c6, rfl⟩ := own_form hown6
            have z1 : IntKind.i64.wrap ((k : Int) + 1) = (k : Int) + 1 := IntWalk.i64_in _ (by omega)
            have q4 : (k : Int) ≤ (c : Int) := by omega
            have q5 : (k : Int) + 1 ≤ (lc.length : Int) := by omega
            have q6 : (k : Int) + 1 ≤ (c : Int) := by omega
            have q7 : (lc.length : Int) ≤ (c : Int) := by omega
            have q9 : (0 : Int) ≤ (k : Int) + 1 := by omega
            clear hown6 hg6 hat6 hlt6 HRW HOW HBW x0 x1 x2 x3 x4
            go_wp2_with fail
            by_cases hcz : c = k + 1
            · have q8 : (k : Int) ≤ (k : Int) + 1 := by omega
              have hdz : lc.drop (k + 1) = [] := List.drop_eq_nil_iff.2 (by omega)
              have HE := Lib.hid (show (w6.alloc (.cells #[] 84)).drew.ownsRow w6.heap.size 84 5 (.slice (some ⟨w6.heap.size, 0, none⟩) 0 0) ([] : List Cd).length (rcC []) from own_empty w6 _ 5)
              have HT1 := Lib.hid (show Row (w6.alloc (.cells #[] 84)).drew (some ⟨gb, go, none⟩) (rcC (lc.take k)) from (rc_take HRB6.out).below ((Below.refl w6.heap.size w6).alloc (Nat.le_refl _) (.cells #[] 84)).drew)
              have HBE := Lib.hid (show Below w6.heap.size w6 (w6.alloc (.cells #[] 84)).drew from ((Below.refl w6.heap.size w6).alloc (Nat.le_refl _) _).drew)
              have htl : (lc.take k).length = k := by rw [List.length_take]; omega
              have hdl : (lc.drop (k + 1)).length = lc.length - (k + 1) := by rw [List.length_drop]
              have HTL := Lib.hid htl
              have HDL := Lib.hid hdl
              clear htl hdl
              go_region_law (first | (refine step_append_rc (by rfl) (.tmp 44) (.tmp 48) (by rfl) (acc := lc.take k) (by rfl) HO7.out (by rfl) HD7.out hs7 HDL.out (by rw [HTL.out]; omega) ?_; intro v8 w8 ho8 hb8; have HO8 := Lib.hid ho8; have HB8 := Lib.hid (HB7.out.trans (hb8.mono (Nat.le_refl _))); clear ho8 hb8) | (refine step_append_rc (by rfl) (.tmp 40) (.tmp 43) (by rfl) (acc := []) (by rfl) HE.out (by rfl) HT1.out (by simp) HTL.out (by simp; omega) ?_; intro v7 w7 ho7 hb7; have HO7 := Lib.hid (show w7.ownsRow w6.heap.size 84 5 v7 (lc.take k).length (rcC (lc.take k)) from ho7); have HB7 := Lib.hid (HBE.out.trans hb7); have HD7 : Hid (Row w7 (some ⟨gb, go, none⟩) (rcC (lc.drop (k + 1)))) := Lib.hid (by rw [hdz]; exact fun h => absurd rfl h); have hs7 := HB7.out.size; clear ho7 hb7))
              all_goals
                have HL8 := Lib.hid (show (lc.take k ++ lc.drop (k + 1)).length ≤ 40 by rw [List.length_append, HTL.out, HDL.out]; omega)
                have HOK8 := Lib.hid (show ∀ x ∈ lc.take k ++ lc.drop (k + 1), okC x from fun x hx => HOK.out x (by
                  rcases List.mem_append.1 hx with h | h
                  · exact List.mem_of_mem_take h
                  · exact List.mem_of_mem_drop h))
                generalize lc.take k ++ lc.drop (k + 1) = lc8 at *
                obtain ⟨A8, c8, rfl⟩ := own_form HO8.out
                have HDIS := Lib.hid (show ∀ b o, A8 = some ⟨b, o, none⟩ → (Value.slice A6 (acc.length + 1) c6).ownBlock ≠ some b from fun b o hA hb => by
                  subst hA
                  have h1 := HLT.out b hb
                  have h2 := (HO8.out.lt b rfl).1
                  omega)
                have HB9 := Lib.hid (HB6.out.trans (HB8.out.mono hs6))
                have HO9 := Lib.hid (own_below HO6.out HB8.out)
                clear HO7 HB7 HD7 hs7
                go_wp2_with fail
                refine ⟨?_, ?_⟩
                · repeat apply Exists.intro
                  refine ⟨?_, rfl⟩
                  refine ⟨lc8, acc ++ [m], A8, c8, rfl, own_cap HO8.out, (rowT_own HO8.out).row, HDIS.out, HO9.out, HB9.out, ?_, by simp; omega, HOK8.out, HL8.out⟩
                  rw [← HS2.out, List.length_append, List.append_assoc]
                  rfl
                · show n - (acc.length + 1) < n - acc.length
                  omega
            · have hcz2 : k + 1 < c := by omega
              have HE := Lib.hid (show (w6.alloc (.cells #[] 84)).drew.ownsRow w6.heap.size 84 5 (.slice (some ⟨w6.heap.size, 0, none⟩) 0 0) ([] : List Cd).length (rcC []) from own_empty w6 _ 5)
              have HT1 := Lib.hid (show Row (w6.alloc (.cells #[] 84)).drew (some ⟨gb, go, none⟩) (rcC (lc.take k)) from (rc_take HRB6.out).below ((Below.refl w6.heap.size w6).alloc (Nat.le_refl _) (.cells #[] 84)).drew)
              have HBE := Lib.hid (show Below w6.heap.size w6 (w6.alloc (.cells #[] 84)).drew from ((Below.refl w6.heap.size w6).alloc (Nat.le_refl _) _).drew)
              have htl : (lc.take k).length = k := by rw [List.length_take]; omega
              have hdl : (lc.drop (k + 1)).length = lc.length - (k + 1) := by rw [List.length_drop]
              have HTL := Lib.hid htl
              have HDL := Lib.hid hdl
              clear htl hdl
              go_region_law (first | (refine step_append_rc (by rfl) (.tmp 44) (.tmp 48) (by rfl) (acc := lc.take k) (by rfl) HO7.out (by rfl) HD7.out hs7 HDL.out (by rw [HTL.out]; omega) ?_; intro v8 w8 ho8 hb8; have HO8 := Lib.hid ho8; have HB8 := Lib.hid (HB7.out.trans (hb8.mono (Nat.le_refl _))); clear ho8 hb8) | (refine step_append_rc (by rfl) (.tmp 40) (.tmp 43) (by rfl) (acc := []) (by rfl) HE.out (by rfl) HT1.out (by simp) HTL.out (by simp; omega) ?_; intro v7 w7 ho7 hb7; have HO7 := Lib.hid (show w7.ownsRow w6.heap.size 84 5 v7 (lc.take k).length (rcC (lc.take k)) from ho7); have HB7 := Lib.hid (HBE.out.trans hb7); have HD7 : Hid (Row w7 (some ⟨gb, go + (k + 1) * 5, none⟩) (rcC (lc.drop (k + 1)))) := Lib.hid ((rc_drop HRB6.out (by omega)).below HB7.out); have hs7 := HB7.out.size; clear ho7 hb7))
              all_goals
                have HL8 := Lib.hid (show (lc.take k ++ lc.drop (k + 1)).length ≤ 40 by rw [List.length_append, HTL.out, HDL.out]; omega)
                have HOK8 := Lib.hid (show ∀ x ∈ lc.take k ++ lc.drop (k + 1), okC x from fun x hx => HOK.out x (by
                  rcases List.mem_append.1 hx with h | h
                  · exact List.mem_of_mem_take h
                  · exact List.mem_of_mem_drop h))
                generalize lc.take k ++ lc.drop (k + 1) = lc8 at *
                obtain ⟨A8, c8, rfl⟩ := own_form HO8.out
                have HDIS := Lib.hid (show ∀ b o, A8 = some ⟨b, o, none⟩ → (Value.slice A6 (acc.length + 1) c6).ownBlock ≠ some b from fun b o hA hb => by
                  subst hA
                  have h1 := HLT.out b hb
                  have h2 := (HO8.out.lt b rfl).1
                  omega)
                have HB9 := Lib.hid (HB6.out.trans (HB8.out.mono hs6))
                have HO9 := Lib.hid (own_below HO6.out HB8.out)
                clear HO7 HB7 HD7 hs7
                go_wp2_with fail
                refine ⟨?_, ?_⟩
                · repeat apply Exists.intro
                  refine ⟨?_, rfl⟩
                  refine ⟨lc8, acc ++ [m], A8, c8, rfl, own_cap HO8.out, (rowT_own HO8.out).row, HDIS.out, HO9.out, HB9.out, ?_, by simp; omega, HOK8.out, HL8.out⟩
                  rw [← HS2.out, List.length_append, List.append_assoc]
                  rfl
                · show n - (acc.length + 1) < n - acc.length
                  omega
      · have q2 : ¬ (acc.length : Int) < (n : Int) := by omega
        have hs2 := HS.out
        rw [show n - acc.length = 0 from by omega, AU.selN, List.append_nil] at hs2
        have HS2 := Lib.hid hs2
        clear hs2 HS
        go_wp2_with fail
        go_ret
        rw [← HS2.out]
        exact ⟨_, rfl, HO.out, HB.out⟩
end
end Go.Proofs.Ytehdgdlndlamjaa
