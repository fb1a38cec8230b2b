/- The contracts of words, number, register of the reference. -/
import Derived.Test.YtgeagpplihecmaaDoorAsP
import Derived.Test.YtgeagpplihecmaaDoorAsR
import Derived.Test.YtgeagpplihecmaaDoorAsM
import Derived.Test.YtgeagpplihecmaaDoorPlainAsm5
namespace Go.Proofs.YtgeagpplihecmaaDoor
open Go.RowKit
open AS (Ins)
theorem infoStr5 : (Tryd.prog.info? 9).map (fun i => (i.zero, i.size, i.bytes)) = some (some (.string ⟨#[]⟩), 1, 16) := by kernel_rfl
/-- What words' loop knows: the words so far, the word so far. -/
def WdRel (s : ByteArray) (w : World) (o wd i : Value) (wr : World) : Prop :=
  ∃ (k : Nat) (L : List ByteArray) (C : ByteArray), k ≤ s.size + 1 ∧ i = .int .i64 (k : Int) ∧ wd = .string C ∧ C.size ≤ k ∧ L.length ≤ k ∧ wr.ownsRow w.heap.size 9 1 o L.length (L.map Value.string) ∧ Below w.heap.size w wr ∧
    (if k ≤ s.size then AS.bts L ++ AS.flds C.data.toList (s.data.toList.drop k) else AS.bts L) = AS.flds [] s.data.toList
section
set_option maxHeartbeats 2000000
set_option maxRecDepth 100000
theorem rwords_any (s : ByteArray) (w : World) (hs : s.size ≤ 100000) :
    Calls Tryd.prog 55 #[.string s] w fun e w' => ∃ (A : Option Addr) (c : Nat) (L : List ByteArray), e = .returned (.slice A L.length c) ∧ AS.bts L = AS.flds [] s.data.toList ∧ L.length ≤ s.size + 1 ∧ Row w' A (L.map Value.string) ∧ Below w.heap.size w w' := by
  obtain ⟨i1, ki, kz0, kz1, kz2⟩ := info_parts infoStr5
  have K0 := Lib.hid ki
  have K1 := Lib.hid kz0
  have K2 := Lib.hid kz1
  have K3 := Lib.hid kz2
  have hsl : s.data.toList.length = s.size := Array.length_toList
  clear ki kz0 kz1 kz2
  go_enter Tryd.func55, Tryd.ntmps55
  go_wp2_with fail
  go_loopw [3, 4, 5] (fun o wd i wr => WdRel s w o wd i wr) (fun _ _ i _ => s.size + 1 - (intOf i).toNat)
  case atStart => exact ⟨0, [], ⟨#[]⟩, by omega, rfl, rfl, by decide, by simp, World.ownsRow_nil _ _ _ _, Below.refl _ _, by simp [AS.bts]⟩
  case round =>
    obtain ⟨k, L, C, hk, rfl, rfl, hC, hL, hown, hbw, hst⟩ := hrel
    obtain ⟨A3, c3, rfl⟩ := own_form hown
    have HB := Lib.hid hbw
    have HO := Lib.hid hown
    have hsw := hbw.size
    have hCl : C.data.toList.length = C.size := Array.length_toList
    by_cases hlt : k ≤ s.size
    · rw [if_pos hlt] at hst
      have q0 : (k : Int) ≤ (s.size : Int) := by omega
      have hstop : (k = s.size ∨ ∃ b r, s.data.toList.drop k = b :: r ∧ AS.isBl b = true) → AS.bts L ++ AS.flds C.data.toList (s.data.toList.drop k) = AS.bts (if C.size = 0 then L else L ++ [C]) ++ (if k + 1 ≤ s.size then AS.flds [] (s.data.toList.drop (k + 1)) else []) := by
        intro h
        have hCe : C.data.toList.isEmpty = decide (C.size = 0) := by
          cases hh : C.data.toList with
          | nil => rw [hh] at hCl; rw [List.length_nil] at hCl; exact (decide_eq_true (by omega)).symm
          | cons a r => rw [hh, List.length_cons] at hCl; exact (decide_eq_false (by omega)).symm
        rcases h with h | ⟨b, r, h1, h2⟩
        · rw [List.drop_eq_nil_of_le (by omega), AS.flds, if_neg (show ¬ k + 1 ≤ s.size by omega), hCe]
          by_cases hz : C.size = 0
          · simp [hz]
          · simp [hz, AS.bts]
        · have hr : s.data.toList.drop (k + 1) = r := by rw [← List.drop_drop, h1]; rfl
          rw [h1, AS.flds, if_pos h2, hCe, hr]
          have hle : k + 1 ≤ s.size := by
            have := congrArg List.length h1
            simp at this
            omega
          rw [if_pos hle]
          by_cases hz : C.size = 0
          · simp [hz]
          · simp [hz, AS.bts]
      by_cases hstopc : k = s.size ∨ ∃ b r, s.data.toList.drop k = b :: r ∧ AS.isBl b = true
      · rw [hstop hstopc] at hst
        have hcond : (((k : Int) == (s.size : Int)) = true) ∨ (((k : Int) == (s.size : Int)) = false ∧ ∃ h : k < s.size, ((s[k].toNat : Int) == 32) = true) ∨ (((k : Int) == (s.size : Int)) = false ∧ ∃ h : k < s.size, ((s[k].toNat : Int) == 32) = false ∧ ((s[k].toNat : Int) == 9) = true) := by
          rcases hstopc with h | ⟨b, r, h1, h2⟩
          · exact .inl (beq_iff_eq.2 (by omega))
          · have hlk : k < s.size := by
              have := congrArg List.length h1
              simp at this
              omega
            have hb : ∀ h, s[k]'h = b := by
              intro _
              have h3 : s.data.toList.drop k = s.data.toList[k]'(by omega) :: s.data.toList.drop (k + 1) := List.drop_eq_getElem_cons (by omega)
              rw [h1] at h3
              injection h3 with h3 _
              exact h3.symm
            unfold AS.isBl at h2
            simp only [Bool.or_eq_true, beq_iff_eq] at h2
            have hne : ((k : Int) == (s.size : Int)) = false := beq_eq_false_iff_ne.2 (by omega)
            rcases h2 with rfl | rfl
            · exact .inr (.inl ⟨hne, hlk, by rw [hb]; rfl⟩)
            · exact .inr (.inr ⟨hne, hlk, by rw [hb]; rfl, by rw [hb]; rfl⟩)
        have HST := Lib.hid hst
        clear hst hstop hstopc hbw hown
        by_cases hz : C.size = 0
        · have hCe : C = ⟨#[]⟩ := by
            apply ByteArray.ext
            apply Array.ext'
            rw [List.eq_nil_of_length_eq_zero (show C.data.toList.length = 0 by omega)]
          subst hCe
          have HN := Lib.hid (show WdRel s w (.slice A3 L.length c3) (.string ⟨#[]⟩) (.int .i64 ((k : Int) + 1)) wr from ⟨k + 1, L, ⟨#[]⟩, by omega, by simp, rfl, by simp [ByteArray.size], by omega, HO.out, HB.out, by
            have := HST.out
            rw [if_pos hz] at this
            rw [← this]
            split <;> simp⟩)
          clear HST
          rcases hcond with e1 | ⟨e1, hlk, e2⟩ | ⟨e1, hlk, e2, e3⟩
          all_goals
            go_wp2_with fail
            exact ⟨HN.out, by simp [intOf]; omega⟩
        · have hcn : C ≠ ⟨#[]⟩ := by rintro rfl; exact hz rfl
          have hct : C.toList.isEmpty = false := by rw [← decide_eq_emptyBytes]; exact decide_eq_false hcn
          have HZ := Lib.hid hz
          clear hz
          rcases hcond with e1 | ⟨e1, hlk, e2⟩ | ⟨e1, hlk, e2, e3⟩
          · go_wp2_with (at_builtin; refine wpList_append_own _ rfl _ _ 37 rfl w.heap.size 9 i1 (.string ⟨#[]⟩) 1 16 Tryd.underlying37 K0.out K1.out K2.out K3.out rfl (by decide) _ _ _ rfl (HO.out.alloc _) ⟨wr.heap.size, 0, none⟩ 1 1 [.string C] rfl rfl ?c1 ?c2 ?c3 ?c4 ?c5 ?_)
            case c1 =>
              intro j u hj
              have e : (⟨wr.heap.size, 0, none⟩ : Addr).add j = ⟨wr.heap.size, j, none⟩ := by unfold Addr.add; split <;> simp_all
              rw [e]
              exact ((Blk.new wr 9 #[.string C]).cell j).trans (by rw [← List.getElem?_toArray] at hj; exact hj)
            case c2 => intro u hu; simp at hu; subst hu; rfl
            case c3 => unfold maxLen; omega
            case c4 => omega
            case c5 => simp; omega
            intro v' w6 hown6 hg6 _
            have hB6 : Below w.heap.size w w6 := Below.grown (below_new HB.out (.cells #[.string C] 9)) hg6 (by simp; omega) (fun k hk => (HO.out.lt k hk).1)
            have HN := Lib.hid (show WdRel s w v' (.string ⟨#[]⟩) (.int .i64 ((k : Int) + 1)) w6 from ⟨k + 1, L ++ [C], ⟨#[]⟩, by omega, by simp, rfl, by simp [ByteArray.size], by simp; omega, by simpa using hown6, hB6, by
              have := HST.out
              rw [if_neg HZ.out] at this
              rw [← this]
              split <;> simp⟩)
            clear hown6 hg6 hB6
            go_wp2_with fail
            exact ⟨HN.out, by simp [intOf]; omega⟩
          · go_wp2_with (at_builtin; refine wpList_append_own _ rfl _ _ 37 rfl w.heap.size 9 i1 (.string ⟨#[]⟩) 1 16 Tryd.underlying37 K0.out K1.out K2.out K3.out rfl (by decide) _ _ _ rfl (HO.out.alloc _) ⟨wr.heap.size, 0, none⟩ 1 1 [.string C] rfl rfl ?c1 ?c2 ?c3 ?c4 ?c5 ?_)
            case c1 =>
              intro j u hj
              have e : (⟨wr.heap.size, 0, none⟩ : Addr).add j = ⟨wr.heap.size, j, none⟩ := by unfold Addr.add; split <;> simp_all
              rw [e]
              exact ((Blk.new wr 9 #[.string C]).cell j).trans (by rw [← List.getElem?_toArray] at hj; exact hj)
            case c2 => intro u hu; simp at hu; subst hu; rfl
            case c3 => unfold maxLen; omega
            case c4 => omega
            case c5 => simp; omega
            intro v' w6 hown6 hg6 _
            have hB6 : Below w.heap.size w w6 := Below.grown (below_new HB.out (.cells #[.string C] 9)) hg6 (by simp; omega) (fun k hk => (HO.out.lt k hk).1)
            have HN := Lib.hid (show WdRel s w v' (.string ⟨#[]⟩) (.int .i64 ((k : Int) + 1)) w6 from ⟨k + 1, L ++ [C], ⟨#[]⟩, by omega, by simp, rfl, by simp [ByteArray.size], by simp; omega, by simpa using hown6, hB6, by
              have := HST.out
              rw [if_neg HZ.out] at this
              rw [← this]
              split <;> simp⟩)
            clear hown6 hg6 hB6
            go_wp2_with fail
            exact ⟨HN.out, by simp [intOf]; omega⟩
          · go_wp2_with (at_builtin; refine wpList_append_own _ rfl _ _ 37 rfl w.heap.size 9 i1 (.string ⟨#[]⟩) 1 16 Tryd.underlying37 K0.out K1.out K2.out K3.out rfl (by decide) _ _ _ rfl (HO.out.alloc _) ⟨wr.heap.size, 0, none⟩ 1 1 [.string C] rfl rfl ?c1 ?c2 ?c3 ?c4 ?c5 ?_)
            case c1 =>
              intro j u hj
              have e : (⟨wr.heap.size, 0, none⟩ : Addr).add j = ⟨wr.heap.size, j, none⟩ := by unfold Addr.add; split <;> simp_all
              rw [e]
              exact ((Blk.new wr 9 #[.string C]).cell j).trans (by rw [← List.getElem?_toArray] at hj; exact hj)
            case c2 => intro u hu; simp at hu; subst hu; rfl
            case c3 => unfold maxLen; omega
            case c4 => omega
            case c5 => simp; omega
            intro v' w6 hown6 hg6 _
            have hB6 : Below w.heap.size w w6 := Below.grown (below_new HB.out (.cells #[.string C] 9)) hg6 (by simp; omega) (fun k hk => (HO.out.lt k hk).1)
            have HN := Lib.hid (show WdRel s w v' (.string ⟨#[]⟩) (.int .i64 ((k : Int) + 1)) w6 from ⟨k + 1, L ++ [C], ⟨#[]⟩, by omega, by simp, rfl, by simp [ByteArray.size], by simp; omega, by simpa using hown6, hB6, by
              have := HST.out
              rw [if_neg HZ.out] at this
              rw [← this]
              split <;> simp⟩)
            clear hown6 hg6 hB6
            go_wp2_with fail
            exact ⟨HN.out, by simp [intOf]; omega⟩
      · have hlk : k < s.size := by
          rcases Nat.lt_or_ge k s.size with h | h
          · exact h
          · exact absurd (.inl (by omega)) hstopc
        have h3 : s.data.toList.drop k = s.data.toList[k]'(by omega) :: s.data.toList.drop (k + 1) := List.drop_eq_getElem_cons (by omega)
        have hbl : AS.isBl (s.data.toList[k]'(by omega)) = false := by
          cases hh : AS.isBl (s.data.toList[k]'(by omega)) with
          | false => rfl
          | true => exact absurd (.inr ⟨_, _, h3, hh⟩) hstopc
        have hsk : ∀ h, s[k]'h = s.data.toList[k]'(by omega) := fun h => rfl
        obtain ⟨x1, x2⟩ := ext_one s k hlk
        rw [h3, AS.flds, hbl] at hst
        simp only [Bool.false_eq_true, if_false] at hst
        generalize s.data.toList[k]'(by omega) = b at *
        unfold AS.isBl at hbl
        rw [Bool.or_eq_false_iff, beq_eq_false_iff_ne, beq_eq_false_iff_ne] at hbl
        have b1 : ((b.toNat : Int) == 32) = false := by
          refine beq_eq_false_iff_ne.2 (fun h => hbl.1 (UInt8.toNat.inj ?_)); show b.toNat = 32; omega
        have b2 : ((b.toNat : Int) == 9) = false := by
          refine beq_eq_false_iff_ne.2 (fun h => hbl.2 (UInt8.toNat.inj ?_)); show b.toNat = 9; omega
        have e1 : ((k : Int) == (s.size : Int)) = false := beq_eq_false_iff_ne.2 (by omega)
        have hcs : (C ++ s.extract k (k + 1)).size = C.size + 1 := by rw [ByteArray.size_append, x2]
        have HN := Lib.hid (show WdRel s w (.slice A3 L.length c3) (.string (C ++ s.extract k (k + 1))) (.int .i64 ((k : Int) + 1)) wr from ⟨k + 1, L, _, by omega, by simp, rfl, by omega, by omega, HO.out, HB.out, by
          rw [if_pos (by omega), ← hst, ← x1]
          simp⟩)
        clear hst hstop hstopc h3 hbl x1 hbw hown
        go_wp2_with fail
        exact ⟨HN.out, by simp [intOf]; omega⟩
    · have hkk : k = s.size + 1 := by omega
      have q1 : ¬ (k : Int) ≤ (s.size : Int) := by omega
      rw [if_neg hlt] at hst
      have HST := Lib.hid hst
      clear hst hown hbw
      go_wp2_with fail
      go_ret
      exact ⟨A3, c3, L, rfl, HST.out, by omega, row_own HO.out (fun h => by rcases Nat.eq_zero_or_pos L.length with h0 | h0; exact absurd (by rw [List.eq_nil_of_length_eq_zero h0]; rfl) h; exact h0), HB.out⟩
/-- What number leaves. -/
def NmEnd (o : Option Int) (w : World) (e : Ending) (w' : World) : Prop :=
  ∃ v : Int, e = .returned (.tuple #[.int .i64 v, .bool o.isSome]) ∧ (∀ n, o = some n → v = n) ∧ w = w'
theorem nmend_none {o : Option Int} {w w' : World} {e : Ending} {v : Int} (ho : o = none) (he : e = .returned (.tuple #[.int .i64 v, .bool false])) (hw : w = w') : NmEnd o w e w' := by
  subst ho
  exact ⟨v, he, fun n h => (by cases h), hw⟩
/-- What number's loop knows. -/
def NuRel (D : AS.Bytes) (f : Nat) (w : World) (n i : Value) (wr : World) : Prop :=
  ∃ j : Nat, j ≤ D.length ∧ i = .int .i64 ((f : Int) + (j : Int)) ∧ n = .int .i64 (AS.val (D.take j) : Int) ∧ (D.take j).all AS.isDig = true ∧ w = wr
theorem number_neg (s : ByteArray) (w : World) (hs : s.size ≤ 100000) (h0 : ∃ h : 0 < s.size, s[0] = 45) :
    Calls Tryd.prog 57 #[.string s] w (NmEnd (AS.rnum s.data.toList) w) := by
  have hsl : s.data.toList.length = s.size := Array.length_toList
  obtain ⟨hpos, h45⟩ := h0
  have e0 : decide ((0 : Int) < (s.size : Int)) = true := decide_eq_true (by omega)
  have hhd : s.data.toList.head? = some 45 := by
    rw [List.head?_eq_getElem?, List.getElem?_eq_getElem (by omega)]
    exact congrArg some h45
  have hD : AS.digs s.data.toList = s.data.toList.drop 1 := by unfold AS.digs; rw [if_pos hhd, List.drop_one]
  have hrn : AS.rnum s.data.toList = if AS.digs s.data.toList = [] ∨ 8 < s.data.toList.length ∨ (AS.digs s.data.toList).all AS.isDig = false ∨ Lib.itoa (AS.signed s.data.toList) ≠ s.data.toList then none else some (AS.signed s.data.toList) := rfl
  have hsg : AS.signed s.data.toList = -(AS.val (AS.digs s.data.toList) : Int) := by unfold AS.signed; rw [if_pos hhd]
  rw [hsg] at hrn
  have hDs : ∀ (j : Nat) (b : UInt8), (AS.digs s.data.toList)[j]? = some b → ∀ h, s[1 + j]'h = b := by
    intro j b hb h
    rw [hD, List.getElem?_drop] at hb
    exact (List.getElem?_eq_some_iff.1 hb).2
  have hDl : (AS.digs s.data.toList).length + 1 = s.size := by rw [hD, List.length_drop]; omega
  clear hD hsg
  generalize AS.digs s.data.toList = D at *
  generalize AS.rnum s.data.toList = R at *
  rw [hsl] at hrn
  by_cases hbad : D = [] ∨ 8 < s.size
  · have hR : R = none := by
      rw [hrn, if_pos]
      rcases hbad with h | h
      · exact .inl h
      · exact .inr (.inl h)
    have hcase : ((s.size : Int) == 1) = true ∨ (((s.size : Int) == 1) = false ∧ decide ((8 : Int) < (s.size : Int)) = true) := by
      rcases (show s.size = 1 ∨ (s.size ≠ 1 ∧ 8 < s.size) by
        rcases hbad with h | h
        · left; rw [h] at hDl; simp at hDl; omega
        · right; omega) with h | ⟨h1, h2⟩
      · exact .inl (beq_iff_eq.2 (by omega))
      · exact .inr ⟨beq_eq_false_iff_ne.2 (by omega), decide_eq_true (by omega)⟩
    have HR := Lib.hid hR
    clear hR hrn hbad
    rcases hcase with e1 | ⟨e1, e2⟩
    all_goals
      go_enter Tryd.func57, Tryd.ntmps57
      go_wp2_with fail
      go_ret2
      exact nmend_none HR.out rfl rfl
  have hD1 : D ≠ [] := fun h => hbad (.inl h)
  have hD2 : 1 ≤ D.length := by
    rcases Nat.eq_zero_or_pos D.length with h | h
    · exact absurd (List.eq_nil_of_length_eq_zero h) hD1
    · exact h
  have h8 : s.size ≤ 8 := by omega
  have e1 : ((s.size : Int) == 1) = false := beq_eq_false_iff_ne.2 (by omega)
  have e2 : decide ((8 : Int) < (s.size : Int)) = false := decide_eq_false (by omega)
  have HRN := Lib.hid (show R = if D.all AS.isDig = false ∨ Lib.itoa (-(AS.val D : Int)) ≠ s.data.toList then none else some (-(AS.val D : Int)) by
    rw [hrn]
    by_cases hc : D.all AS.isDig = false ∨ Lib.itoa (-(AS.val D : Int)) ≠ s.data.toList
    · rw [if_pos hc, if_pos (.inr (.inr hc))]
    · rw [if_neg hc, if_neg]
      rintro (h | h | h)
      · exact hD1 h
      · omega
      · exact hc h)
  have HDS := Lib.hid hDs
  clear hrn hbad hD1 hDs
  go_enter Tryd.func57, Tryd.ntmps57
  go_wp2_with fail
  go_loopw [6, 7] (fun n i wr => NuRel D 1 w n i wr) (fun _ i _ => 9 - (intOf i).toNat)
  case atStart => exact ⟨0, by omega, rfl, rfl, rfl, rfl⟩
  case round =>
    obtain ⟨j, hj, rfl, rfl, hall, rfl⟩ := hrel
    have HALL := Lib.hid hall
    have hvl : AS.val (D.take j) ≤ 100000000 := by
      have h1 := AS.val_lt _ hall
      have h2 : (D.take j).length ≤ 8 := by rw [List.length_take]; omega
      have h3 : 10 ^ (D.take j).length ≤ 10 ^ 8 := Nat.pow_le_pow_right (by decide) h2
      omega
    clear hall
    by_cases hlt : j < D.length
    · have q0 : (1 : Int) + (j : Int) < (s.size : Int) := by omega
      obtain ⟨b, hb⟩ : ∃ b, D[j]? = some b := ⟨_, List.getElem?_eq_getElem hlt⟩
      have hsb := HDS.out j b hb
      have htk : D.take (j + 1) = D.take j ++ [b] := by
        rw [List.take_succ_eq_append_getElem hlt, (List.getElem?_eq_some_iff.1 hb).2]
      have hbm := List.mem_of_getElem? hb
      have HTK := Lib.hid htk
      have hbl := b.toNat_lt
      clear htk hb
      have hnd : AS.isDig b = false → R = none := fun h => by
        rw [HRN.out, if_pos]
        left
        rw [List.all_eq_false]
        exact ⟨b, hbm, by rw [h]; decide⟩
      have hdg : AS.isDig b = (decide (48 ≤ b.toNat) && decide (b.toNat ≤ 57)) := rfl
      by_cases h48 : b.toNat < 48
      · have HR := Lib.hid (hnd (by rw [hdg, decide_eq_false (show ¬ 48 ≤ b.toNat by omega)]; rfl))
        have e3 : decide ((b.toNat : Int) < 48) = true := decide_eq_true (by omega)
        clear hnd hdg
        go_wp2_with fail
        go_ret2
        exact nmend_none HR.out rfl rfl
      · have e3 : decide ((b.toNat : Int) < 48) = false := decide_eq_false (by omega)
        by_cases h57 : 57 < b.toNat
        · have HR := Lib.hid (hnd (by rw [hdg, decide_eq_false (show ¬ b.toNat ≤ 57 by omega), Bool.and_false]))
          have e4 : decide ((57 : Int) < (b.toNat : Int)) = true := decide_eq_true (by omega)
          clear hnd hdg
          go_wp2_with fail
          go_ret2
          exact nmend_none HR.out rfl rfl
        · have e4 : decide ((57 : Int) < (b.toNat : Int)) = false := decide_eq_false (by omega)
          have hdt : AS.isDig b = true := by rw [hdg, decide_eq_true (show 48 ≤ b.toNat by omega), decide_eq_true (show b.toNat ≤ 57 by omega)]; rfl
          have HDT := Lib.hid hdt
          have HVA := Lib.hid (AS.val_app (D.take j) b)
          clear hnd hdg hdt
          generalize hV : AS.val (D.take j) = V at *
          go_wp2_with fail
          refine ⟨⟨j + 1, by omega, by simp <;> omega, ?_, ?_, rfl⟩, by simp [intOf]; omega⟩
          · rw [HTK.out, HVA.out]
            congr 1
            omega
          · rw [HTK.out, List.all_append, HALL.out]
            simp [HDT.out]
    · have hjj : j = D.length := by omega
      have q1 : ¬ (1 : Int) + (j : Int) < (s.size : Int) := by omega
      have htk : D.take j = D := by rw [hjj, List.take_length]
      rw [htk] at hvl
      have hallD := HALL.out
      rw [htk] at hallD
      rw [htk]
      have hrn := HRN.out
      rw [hallD] at hrn
      generalize hV : AS.val D = V at *
      have HDC := Lib.hid (fun W => decimal5 (-(V : Int)) W (by omega) (by omega))
      by_cases heq : Lib.itoa (-(V : Int)) = s.data.toList
      · have hS : (⟨(Lib.itoa (-(V : Int))).toArray⟩ : ByteArray) = s := by
          apply ByteArray.ext
          apply Array.ext'
          rw [heq]
        rw [hS] at HDC
        have HR := Lib.hid (show R = some (-(V : Int)) by rw [hrn, if_neg (by rintro (h | h); exact Bool.noConfusion h; exact h heq)])
        clear hrn heq hS hallD
        go_wp2_with fail
        refine (HDC.out _).mono ?_
        rintro e w2 ⟨rfl, rfl⟩
        go_wp2_with fail
        go_ret2
        rw [HR.out]
        exact ⟨-(V : Int), by simp, fun n h => (by injection h), rfl⟩
      · have hne : ((⟨(Lib.itoa (-(V : Int))).toArray⟩ : ByteArray).toList == s.toList) = false := by
          rw [Lib.toList_data, Lib.toList_data]
          exact beq_eq_false_iff_ne.2 heq
        have HR := Lib.hid (show R = none by rw [hrn, if_pos (.inr heq)])
        generalize (⟨(Lib.itoa (-(V : Int))).toArray⟩ : ByteArray) = X at *
        clear hrn heq hallD
        go_wp2_with fail
        refine (HDC.out _).mono ?_
        rintro e w2 ⟨rfl, rfl⟩
        go_wp2_with fail
        go_ret2
        exact nmend_none HR.out rfl rfl
theorem number_pos (s : ByteArray) (w : World) (hs : s.size ≤ 100000) (h0 : ∃ h : 0 < s.size, s[0] ≠ 45) :
    Calls Tryd.prog 57 #[.string s] w (NmEnd (AS.rnum s.data.toList) w) := by
  have hsl : s.data.toList.length = s.size := Array.length_toList
  obtain ⟨hpos, h45⟩ := h0
  have e0 : decide ((0 : Int) < (s.size : Int)) = true := decide_eq_true (by omega)
  have hb0 : ((s[0].toNat : Int) == 45) = false := by
    refine beq_eq_false_iff_ne.2 (fun h => h45 (UInt8.toNat.inj ?_)); show s[0].toNat = 45; omega
  have hhd : ¬ s.data.toList.head? = some 45 := by
    rw [List.head?_eq_getElem?, List.getElem?_eq_getElem (by omega)]
    intro h
    exact h45 (Option.some.inj h)
  have hD : AS.digs s.data.toList = s.data.toList.drop 0 := by unfold AS.digs; rw [if_neg hhd]; rfl
  have hrn : AS.rnum s.data.toList = if AS.digs s.data.toList = [] ∨ 8 < s.data.toList.length ∨ (AS.digs s.data.toList).all AS.isDig = false ∨ Lib.itoa (AS.signed s.data.toList) ≠ s.data.toList then none else some (AS.signed s.data.toList) := rfl
  have hsg : AS.signed s.data.toList = (AS.val (AS.digs s.data.toList) : Int) := by unfold AS.signed; rw [if_neg hhd]
  rw [hsg] at hrn
  have hDs : ∀ (j : Nat) (b : UInt8), (AS.digs s.data.toList)[j]? = some b → ∀ h, s[j]'h = b := by
    intro j b hb h
    rw [hD, List.getElem?_drop, Nat.zero_add] at hb
    exact (List.getElem?_eq_some_iff.1 hb).2
  have hDl : (AS.digs s.data.toList).length + 0 = s.size := by rw [hD, List.length_drop]; omega
  clear hD hsg
  generalize AS.digs s.data.toList = D at *
  generalize AS.rnum s.data.toList = R at *
  rw [hsl] at hrn
  by_cases hbad : D = [] ∨ 8 < s.size
  · have hR : R = none := by
      rw [hrn, if_pos]
      rcases hbad with h | h
      · exact .inl h
      · exact .inr (.inl h)
    have hcase : ((s.size : Int) == 0) = true ∨ (((s.size : Int) == 0) = false ∧ decide ((8 : Int) < (s.size : Int)) = true) := by
      rcases (show s.size = 0 ∨ (s.size ≠ 0 ∧ 8 < s.size) by
        rcases hbad with h | h
        · left; rw [h] at hDl; simp at hDl; omega
        · right; omega) with h | ⟨h1, h2⟩
      · exact .inl (beq_iff_eq.2 (by omega))
      · exact .inr ⟨beq_eq_false_iff_ne.2 (by omega), decide_eq_true (by omega)⟩
    have HR := Lib.hid hR
    clear hR hrn hbad
    rcases hcase with e1 | ⟨e1, e2⟩
    all_goals
      go_enter Tryd.func57, Tryd.ntmps57
      go_wp2_with fail
      go_ret2
      exact nmend_none HR.out rfl rfl
  have hD1 : D ≠ [] := fun h => hbad (.inl h)
  have hD2 : 1 ≤ D.length := by
    rcases Nat.eq_zero_or_pos D.length with h | h
    · exact absurd (List.eq_nil_of_length_eq_zero h) hD1
    · exact h
  have h8 : s.size ≤ 8 := by omega
  have e1 : ((s.size : Int) == 0) = false := beq_eq_false_iff_ne.2 (by omega)
  have e2 : decide ((8 : Int) < (s.size : Int)) = false := decide_eq_false (by omega)
  have HRN := Lib.hid (show R = if D.all AS.isDig = false ∨ Lib.itoa ((AS.val D : Int)) ≠ s.data.toList then none else some ((AS.val D : Int)) by
    rw [hrn]
    by_cases hc : D.all AS.isDig = false ∨ Lib.itoa ((AS.val D : Int)) ≠ s.data.toList
    · rw [if_pos hc, if_pos (.inr (.inr hc))]
    · rw [if_neg hc, if_neg]
      rintro (h | h | h)
      · exact hD1 h
      · omega
      · exact hc h)
  have HDS := Lib.hid hDs
  clear hrn hbad hD1 hDs
  go_enter Tryd.func57, Tryd.ntmps57
  go_wp2_with fail
  go_loopw [6, 7] (fun n i wr => NuRel D 0 w n i wr) (fun _ i _ => 9 - (intOf i).toNat)
  case atStart => exact ⟨0, by omega, rfl, rfl, rfl, rfl⟩
  case round =>
    obtain ⟨j, hj, rfl, rfl, hall, rfl⟩ := hrel
    have HALL := Lib.hid hall
    have hvl : AS.val (D.take j) ≤ 100000000 := by
      have h1 := AS.val_lt _ hall
      have h2 : (D.take j).length ≤ 8 := by rw [List.length_take]; omega
      have h3 : 10 ^ (D.take j).length ≤ 10 ^ 8 := Nat.pow_le_pow_right (by decide) h2
      omega
    clear hall
    by_cases hlt : j < D.length
    · have q0 : (j : Int) < (s.size : Int) := by omega
      obtain ⟨b, hb⟩ : ∃ b, D[j]? = some b := ⟨_, List.getElem?_eq_getElem hlt⟩
      have hsb := HDS.out j b hb
      have htk : D.take (j + 1) = D.take j ++ [b] := by
        rw [List.take_succ_eq_append_getElem hlt, (List.getElem?_eq_some_iff.1 hb).2]
      have hbm := List.mem_of_getElem? hb
      have HTK := Lib.hid htk
      have hbl := b.toNat_lt
      clear htk hb
      have hnd : AS.isDig b = false → R = none := fun h => by
        rw [HRN.out, if_pos]
        left
        rw [List.all_eq_false]
        exact ⟨b, hbm, by rw [h]; decide⟩
      have hdg : AS.isDig b = (decide (48 ≤ b.toNat) && decide (b.toNat ≤ 57)) := rfl
      by_cases h48 : b.toNat < 48
      · have HR := Lib.hid (hnd (by rw [hdg, decide_eq_false (show ¬ 48 ≤ b.toNat by omega)]; rfl))
        have e3 : decide ((b.toNat : Int) < 48) = true := decide_eq_true (by omega)
        clear hnd hdg
        go_wp2_with fail
        go_ret2
        exact nmend_none HR.out rfl rfl
      · have e3 : decide ((b.toNat : Int) < 48) = false := decide_eq_false (by omega)
        by_cases h57 : 57 < b.toNat
        · have HR := Lib.hid (hnd (by rw [hdg, decide_eq_false (show ¬ b.toNat ≤ 57 by omega), Bool.and_false]))
          have e4 : decide ((57 : Int) < (b.toNat : Int)) = true := decide_eq_true (by omega)
          clear hnd hdg
          go_wp2_with fail
          go_ret2
          exact nmend_none HR.out rfl rfl
        · have e4 : decide ((57 : Int) < (b.toNat : Int)) = false := decide_eq_false (by omega)
          have hdt : AS.isDig b = true := by rw [hdg, decide_eq_true (show 48 ≤ b.toNat by omega), decide_eq_true (show b.toNat ≤ 57 by omega)]; rfl
          have HDT := Lib.hid hdt
          have HVA := Lib.hid (AS.val_app (D.take j) b)
          clear hnd hdg hdt
          generalize hV : AS.val (D.take j) = V at *
          go_wp2_with fail
          refine ⟨⟨j + 1, by omega, by simp <;> omega, ?_, ?_, rfl⟩, by simp [intOf]; omega⟩
          · rw [HTK.out, HVA.out]
            congr 1
            omega
          · rw [HTK.out, List.all_append, HALL.out]
            simp [HDT.out]
    · have hjj : j = D.length := by omega
      have q1 : ¬ (j : Int) < (s.size : Int) := by omega
      have htk : D.take j = D := by rw [hjj, List.take_length]
      rw [htk] at hvl
      have hallD := HALL.out
      rw [htk] at hallD
      rw [htk]
      have hrn := HRN.out
      rw [hallD] at hrn
      generalize hV : AS.val D = V at *
      have HDC := Lib.hid (fun W => decimal5 ((V : Int)) W (by omega) (by omega))
      by_cases heq : Lib.itoa ((V : Int)) = s.data.toList
      · have hS : (⟨(Lib.itoa ((V : Int))).toArray⟩ : ByteArray) = s := by
          apply ByteArray.ext
          apply Array.ext'
          rw [heq]
        rw [hS] at HDC
        have HR := Lib.hid (show R = some ((V : Int)) by rw [hrn, if_neg (by rintro (h | h); exact Bool.noConfusion h; exact h heq)])
        clear hrn heq hS hallD
        go_wp2_with fail
        refine (HDC.out _).mono ?_
        rintro e w2 ⟨rfl, rfl⟩
        go_wp2_with fail
        go_ret2
        rw [HR.out]
        exact ⟨(V : Int), by simp, fun n h => (by injection h), rfl⟩
      · have hne : ((⟨(Lib.itoa ((V : Int))).toArray⟩ : ByteArray).toList == s.toList) = false := by
          rw [Lib.toList_data, Lib.toList_data]
          exact beq_eq_false_iff_ne.2 heq
        have HR := Lib.hid (show R = none by rw [hrn, if_pos (.inr heq)])
        generalize (⟨(Lib.itoa ((V : Int))).toArray⟩ : ByteArray) = X at *
        clear hrn heq hallD
        go_wp2_with fail
        refine (HDC.out _).mono ?_
        rintro e w2 ⟨rfl, rfl⟩
        go_wp2_with fail
        go_ret2
        exact nmend_none HR.out rfl rfl
theorem number_zero (s : ByteArray) (w : World) (h0 : s.size = 0) :
    Calls Tryd.prog 57 #[.string s] w (NmEnd (AS.rnum s.data.toList) w) := by
  have hs : s = ⟨#[]⟩ := by
    apply ByteArray.ext
    apply Array.ext'
    exact List.eq_nil_of_length_eq_zero (by rw [show s.data.toList.length = s.size from Array.length_toList]; exact h0)
  subst hs
  rw [show AS.rnum (⟨#[]⟩ : ByteArray).data.toList = none from by decide +kernel]
  clear h0
  go_enter Tryd.func57, Tryd.ntmps57
  go_wp2_with fail
  go_ret2
  exact nmend_none rfl rfl rfl
theorem rnumber_any (s : ByteArray) (w : World) (hs : s.size ≤ 100000) : Calls Tryd.prog 57 #[.string s] w (NmEnd (AS.rnum s.data.toList) w) := by
  by_cases h0 : s.size = 0
  · exact number_zero s w h0
  · by_cases h1 : s[0] = 45
    · exact number_neg s w hs ⟨by omega, h1⟩
    · exact number_pos s w hs ⟨by omega, h1⟩
/-- The reference's register. -/
theorem rregister_any (s : ByteArray) (w : World) (hs : s.size ≤ 100000) : Calls Tryd.prog 56 #[.string s] w (NmEnd (AS.rreg s.data.toList) w) := by
  have hsl : s.data.toList.length = s.size := Array.length_toList
  have hrr : AS.rreg s.data.toList = if s.data.toList.length < 2 ∨ s.data.toList.head? ≠ some 114 ∨ s.data.toList.tail.head? = some 45 then none else AS.rnum s.data.toList.tail := rfl
  rw [hsl] at hrr
  generalize AS.rreg s.data.toList = R at *
  by_cases h2 : s.size < 2
  · have HR := Lib.hid (show R = none by rw [hrr, if_pos (.inl h2)])
    have e1 : decide ((s.size : Int) < 2) = true := decide_eq_true (by omega)
    clear hrr
    go_enter Tryd.func56, Tryd.ntmps56
    go_wp2_with fail
    go_ret2
    exact nmend_none HR.out rfl rfl
  have e1 : decide ((s.size : Int) < 2) = false := decide_eq_false (by omega)
  have hh0 : s.data.toList.head? = some s[0] := by
    rw [List.head?_eq_getElem?, List.getElem?_eq_getElem (by omega)]; rfl
  have hh1 : s.data.toList.tail.head? = some s[1] := by
    rw [List.head?_eq_getElem?, List.getElem?_tail, List.getElem?_eq_getElem (by omega)]; rfl
  rw [hh0, hh1] at hrr
  have k1 : 0 < s.size := by omega
  have k2 : 1 < s.size := by omega
  by_cases h3 : s[0] = 114
  · have e2 : ((s[0].toNat : Int) != 114) = false := by rw [h3]; rfl
    by_cases h4 : s[1] = 45
    · have HR := Lib.hid (show R = none by rw [hrr, if_pos (.inr (.inr (by rw [h4])))])
      have e3 : ((s[1].toNat : Int) == 45) = true := by rw [h4]; rfl
      clear hrr hh0 hh1 h3 h4
      go_enter Tryd.func56, Tryd.ntmps56
      go_wp2_with fail
      go_ret2
      exact nmend_none HR.out rfl rfl
    · have e3 : ((s[1].toNat : Int) == 45) = false := by
        refine beq_eq_false_iff_ne.2 (fun h => h4 (UInt8.toNat.inj ?_)); show s[1].toNat = 45; omega
      have hR : R = AS.rnum s.data.toList.tail := by
        rw [hrr, if_neg]
        rintro (h | h | h)
        · exact h2 h
        · exact h (by rw [h3])
        · exact h4 (Option.some.inj h)
      have hx : (s.extract 1 s.size).data.toList = s.data.toList.tail := by
        rw [ByteArray.data_extract, Array.toList_extract, List.extract_eq_take_drop, List.drop_one, List.take_of_length_le (by rw [List.length_tail]; omega)]
      have hxs : (s.extract 1 s.size).size ≤ 100000 := by
        have h1 : (s.extract 1 s.size).data.toList.length = (s.extract 1 s.size).size := Array.length_toList
        rw [hx, List.length_tail] at h1
        omega
      have hnm := rnumber_any (s.extract 1 s.size) w hxs
      rw [hx, ← hR] at hnm
      have HNM := Lib.hid hnm
      clear hrr hh0 hh1 h3 h4 hnm hx hR
      go_enter Tryd.func56, Tryd.ntmps56
      go_wp2_with fail
      refine HNM.out.mono ?_
      rintro e w2 ⟨v, rfl, hv, rfl⟩
      go_wp2_with fail
      go_ret2
      exact ⟨v, rfl, hv, rfl⟩
  · have HR := Lib.hid (show R = none by rw [hrr, if_pos (.inr (.inl (fun h => h3 (Option.some.inj h))))])
    have e2 : ((s[0].toNat : Int) != 114) = true := by
      refine bne_iff_ne.2 (fun h => h3 (UInt8.toNat.inj ?_)); show s[0].toNat = 114; omega
    clear hrr hh0 hh1 h3
    go_enter Tryd.func56, Tryd.ntmps56
    go_wp2_with fail
    go_ret2
    exact nmend_none HR.out rfl rfl
end
end Go.Proofs.YtgeagpplihecmaaDoor
