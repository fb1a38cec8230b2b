/- The walk of the reference's Parse. -/
import Derived.Test.YtgeagpplihecmaaDoorAsT
import Derived.Test.YtgeagpplihecmaaDoorAsK
namespace Go.Proofs.YtgeagpplihecmaaDoor
open Go.RowKit
open AS (Ins)
def stepOut (o : Ins × Int) (ls : List AS.Bytes) (k : Nat) (acc : List Ins) : List Ins × Nat × Nat :=
  if o.2 < 0 then ([], k + 1, 3) else if o.2 = 1 then (if acc.length = 4096 then ([], k + 1, 5) else AS.rdLines ls (k + 1) (acc ++ [o.1])) else AS.rdLines ls (k + 1) acc
theorem rdOut_cases (s : AS.Bytes) : (rdOut s).2 = 0 ∨ (rdOut s).2 = -1 ∨ (rdOut s).2 = 1 := by
  unfold rdOut
  cases AS.words s with
  | nil => exact .inl rfl
  | cons w ws => cases h : AS.rdLine w ws with
    | none => right; left; simp [h]
    | some i => right; right; simp [h]
theorem rdLines_out (P : AS.Bytes) (ls : List AS.Bytes) (k : Nat) (acc : List Ins) : AS.rdLines (P :: ls) k acc = stepOut (rdOut P) ls k acc := by
  unfold stepOut rdOut
  rw [AS.rdLines]
  cases AS.words P with
  | nil => rfl
  | cons w ws => cases h : AS.rdLine w ws with
    | none => simp [h]
    | some i => simp [h]
theorem lines_at : ∀ (l cur : AS.Bytes), ∃ n, n ≤ l.length ∧ (∀ k b, k < n → l[k]? = some b → b ≠ 10) ∧ ((n = l.length ∧ AS.lines cur l = [cur ++ l]) ∨ (l[n]? = some 10 ∧ AS.lines cur l = (cur ++ l.take n) :: AS.lines [] (l.drop (n + 1))))
  | [], cur => ⟨0, Nat.le_refl _, fun k b hk => (by omega), .inl ⟨rfl, by simp [AS.lines]⟩⟩
  | b :: l, cur => by
    by_cases hb : b = 10
    · subst hb
      refine ⟨0, Nat.zero_le _, fun k b hk => (by omega), .inr ⟨rfl, ?_⟩⟩
      rw [AS.lines, if_pos (by decide)]
      simp
    · obtain ⟨n, h1, h2, h3⟩ := lines_at l (cur ++ [b])
      refine ⟨n + 1, by simp; omega, ?_, ?_⟩
      · intro k c hk hc
        match k with
        | 0 => simp at hc; subst hc; exact hb
        | k + 1 => exact h2 k c (by omega) (by simpa using hc)
      · rw [AS.lines, if_neg (by simpa using hb)]
        rcases h3 with ⟨h3, h4⟩ | ⟨h3, h4⟩
        · left; exact ⟨by simp [h3], by rw [h4]; simp⟩
        · right; exact ⟨by simpa using h3, by rw [h4]; simp⟩
theorem rd_step (l : AS.Bytes) (k : Nat) (acc : List Ins) : ∃ n, n ≤ l.length ∧ (∀ j b, j < n → l[j]? = some b → b ≠ 10) ∧ (n = l.length ∨ l[n]? = some 10) ∧
    AS.rdLines (AS.lines [] l) k acc = stepOut (rdOut (l.take n)) (AS.lines [] (l.drop (n + 1))) k acc := by
  obtain ⟨n, h1, h2, h3⟩ := lines_at l []
  refine ⟨n, h1, h2, ?_, ?_⟩
  · rcases h3 with h | h
    · exact .inl h.1
    · exact .inr h.1
  · rw [← rdLines_out]
    rcases h3 with ⟨h3, h4⟩ | ⟨_, h4⟩
    · rw [h4, h3, List.take_length, List.drop_eq_nil_of_le (by omega), List.nil_append]
      show _ = AS.rdLines (l :: [[]]) k acc
      rw [AS.rdLines, AS.rdLines]
      have hw : AS.words [] = [] := rfl
      simp only [AS.rdLines, hw]
    · rw [h4, List.nil_append]
/-- What Parse's loop knows. -/
def RPRel (w : World) (R : List Ins × Nat × Nat) (s v ln : Value) (wr : World) : Prop :=
  ∃ (S : ByteArray) (k : Nat) (acc : List Ins), s = .string S ∧ S.size + k ≤ 65536 ∧ ln = .int .i64 ((k : Int) + 1) ∧ wr.ownsRow w.heap.size 48 5 v acc.length (insCells acc) ∧ Below w.heap.size w wr ∧ acc.length ≤ 4096 ∧
    AS.rdLines (AS.lines [] S.data.toList) k acc = R
section
set_option maxHeartbeats 2000000
set_option maxRecDepth 100000
theorem rparse_any (s : ByteArray) (w : World) (hs : s.size ≤ 4000000000) : Calls Tryd.prog 17 #[.string s] w (PaEnd w (AS.parse s.data.toList)) := by
  have hsl : s.data.toList.length = s.size := Array.length_toList
  have hpa : AS.parse s.data.toList = if 65536 < s.data.toList.length then ([], 0, 5) else AS.rdLines (AS.lines [] s.data.toList) 0 [] := rfl
  rw [hsl] at hpa
  generalize AS.parse s.data.toList = R at *
  by_cases hbig : 65536 < s.size
  · have e1 : decide ((65536 : Int) < (s.size : Int)) = true := by simp; omega
    have hR : R = ([], 0, 5) := by rw [hpa, if_pos hbig]
    have HR := Lib.hid hR
    clear hR hpa
    go_enter Tryd.func17, Tryd.ntmps17
    go_wp2_with fail
    go_ret3
    rw [HR.out]
    exact paend_none (Below.refl _ _) rfl
  have e1 : decide ((65536 : Int) < (s.size : Int)) = false := by simp; omega
  have HST := Lib.hid (show RPRel w R (.string s) (.slice none 0 0) (.int .i64 1) w from ⟨s, 0, [], rfl, by omega, rfl, World.ownsRow_nil _ _ _ _, Below.refl _ _, by simp, by rw [hpa, if_neg hbig]⟩)
  have HRD := Lib.hid (fun (S : ByteArray) (W : World) (h : S.size ≤ 100000) => read_any S W h)
  obtain ⟨i1, ki, kz0, kz1, kz2⟩ := info_parts infoIns
  have K0 := Lib.hid ki
  have K1 := Lib.hid kz0
  have K2 := Lib.hid kz1
  have K3 := Lib.hid kz2
  clear hpa ki kz0 kz1 kz2
  go_enter Tryd.func17, Tryd.ntmps17
  go_wp2_with fail
  go_loopw [0, 5, 6] (fun s v ln wr => RPRel w R s v ln wr) (fun s _ _ _ => match s with | .string S => S.size | _ => 0)
  case atStart => exact HST.out
  case round =>
    obtain ⟨S, k, acc, rfl, hk, rfl, hown, hbw, hac, hrd⟩ := hrel
    obtain ⟨A7, c7, rfl⟩ := own_form hown
    have HOW := Lib.hid hown
    have HBW := Lib.hid hbw
    have hsw := hbw.size
    have hSl : S.data.toList.length = S.size := Array.length_toList
    by_cases hz : S.size = 0
    · have hR3 : R = (acc, 0, 0) := by
        have h0 : S.data.toList = [] := List.eq_nil_of_length_eq_zero (by omega)
        rw [h0] at hrd
        rw [← hrd]
        show AS.rdLines [[]] k acc = _
        rw [AS.rdLines]
        rfl
      have HR3 := Lib.hid hR3
      have q0 : ¬ 0 < S.size := by omega
      clear hR3 hown hbw hrd
      go_wp2_with fail
      go_ret3
      rw [HR3.out]
      exact ⟨A7, acc.length, c7, rfl, rfl, row_own HOW.out (fun h => by rcases Nat.eq_zero_or_pos acc.length with h0 | h0; exact absurd (by rw [List.eq_nil_of_length_eq_zero h0]; rfl) h; exact h0), HBW.out⟩
    · have q0 : 0 < S.size := by omega
      obtain ⟨n, n1, n2, n3, n4⟩ := rd_step S.data.toList k acc
      rw [hrd] at n4
      rw [hSl] at n1 n3
      have hcut : ∀ (j : Nat), j < n → ∀ h, ((S[j]'h).toNat : Int) ≠ 10 := fun j hj h hc => by
        refine n2 j _ hj (List.getElem?_eq_getElem (by omega)) (UInt8.toNat.inj ?_)
        show (S.data.toList[j]).toNat = 10
        have h2 : S.data.toList[j] = S[j] := rfl
        rw [h2]
        omega
      have h10 : n < S.size → ∃ h, ((S[n]'h).toNat : Int) = 10 := fun hlt => by
        rcases n3 with h | h
        · omega
        · refine ⟨hlt, ?_⟩
          obtain ⟨h1, h2⟩ := List.getElem?_eq_some_iff.1 h
          have h3 : S[n] = S.data.toList[n] := rfl
          rw [h3, h2]
          rfl
      have HCUT := Lib.hid hcut
      have H10 := Lib.hid h10
      have HX := Lib.hid (show (S.extract 0 n).data.toList = S.data.toList.take n by
        rw [ByteArray.data_extract, Array.toList_extract, List.extract_eq_take_drop, List.drop_zero, Nat.sub_zero])
      have hXs : (S.extract 0 n).size ≤ 100000 := by simp [ByteArray.size_extract]; omega
      have HRDN := Lib.hid (by have h := HRD.out (S.extract 0 n) wr hXs; rw [HX.out] at h; exact h)
      have hD : ∀ m, m = min (n + 1) S.size → (S.extract m S.size).data.toList = S.data.toList.drop (n + 1) ∧ (S.extract m S.size).size + (k + 1) ≤ 65536 ∧ (S.extract m S.size).size < S.size := by
        rintro m rfl
        have hx : (S.extract (min (n + 1) S.size) S.size).data.toList = S.data.toList.drop (n + 1) := by
          rw [ByteArray.data_extract, Array.toList_extract, List.extract_eq_take_drop]
          rcases Nat.lt_or_ge n S.size with h | h
          · rw [show min (n + 1) S.size = n + 1 from by omega, List.take_of_length_le (by rw [List.length_drop]; omega)]
          · rw [show min (n + 1) S.size = S.size from by omega, List.drop_eq_nil_of_le (show S.data.toList.length ≤ n + 1 by omega), List.drop_eq_nil_of_le (show S.data.toList.length ≤ S.size by omega)]
            simp
        have hxl : (S.extract (min (n + 1) S.size) S.size).data.toList.length = (S.extract (min (n + 1) S.size) S.size).size := Array.length_toList
        rw [hx, List.length_drop] at hxl
        exact ⟨hx, by omega, by omega⟩
      have HD := Lib.hid hD
      have HN4 := Lib.hid n4
      clear hD n4 n2 n3 hcut h10 hown hbw hrd hXs HX HRD
      have HOC := Lib.hid (rdOut_cases (S.data.toList.take n))
      generalize rdOut (S.data.toList.take n) = O at *
      go_wp2_with fail
      go_loopw [7] (fun v wr' => ∃ j : Nat, j ≤ n ∧ v = .int .i64 (j : Int) ∧ wr' = wr) (fun v _ => n - (intOf v).toNat)
      case atStart => exact ⟨0, Nat.zero_le _, rfl, rfl⟩
      case round =>
        obtain ⟨j, hj, rfl, rfl⟩ := hrel
        by_cases hlt : j < n
        · have hjs : j < S.size := by omega
          have e2 : ((S[j].toNat : Int) != 10) = true := bne_iff_ne.2 (HCUT.out j hlt hjs)
          have q1 : (j : Int) < (S.size : Int) := by omega
          go_wp2_with fail
          exact ⟨⟨j + 1, by omega, by simp, by simp⟩, by simp [intOf]; omega⟩
        · have hjn : j = n := by omega
          subst hjn
          by_cases hend : j < S.size
          · obtain ⟨hjs, h1⟩ := H10.out hend
            have e2 : ((S[j].toNat : Int) != 10) = false := by rw [h1]; rfl
            have q1 : (j : Int) < (S.size : Int) := by omega
            clear h1
            have hmin : min ((j : Int) + 1) (S.size : Int) = (j : Int) + 1 := by omega
            go_wp2_with fail
            refine HRDN.out.mono ?_
            rintro e w2 ⟨rfl, hb2⟩
            have hOc := HOC.out
            obtain ⟨i, f⟩ := O
            simp only [] at hOc HN4
            rw [show insV i = #[.int .u8 (i.op : Int), .int .i64 i.a, .int .i64 i.b, .int .i64 i.c, .int .i64 i.imm] from rfl]
            have HB2 := Lib.hid (HBW.out.trans (hb2.mono hsw))
            have HOW2 := Lib.hid (own_below HOW.out hb2)
            have hs2 := HB2.out.size
            have HB3 := Lib.hid (HB2.out.alloc hs2 (.cells #[.int .u8 (i.op : Int), .int .i64 i.a, .int .i64 i.b, .int .i64 i.c, .int .i64 i.imm] 48))
            have HOW3 := Lib.hid (show (w2.alloc (.cells #[.int .u8 (i.op : Int), .int .i64 i.a, .int .i64 i.b, .int .i64 i.c, .int .i64 i.imm] 48)).ownsRow w.heap.size 48 5 (.slice A7 acc.length c7) acc.length (insCells acc) from HOW2.out.alloc _)
            obtain ⟨d1, d2, d3⟩ := HD.out (j + 1) (by omega)
            have HD1 := Lib.hid d1
            clear hb2 HRDN HOC HD d1
            rcases hOc with rfl | rfl | rfl
            · have HR3 := Lib.hid (show AS.rdLines (AS.lines [] (S.data.toList.drop (j + 1))) (k + 1) acc = R from (HN4.out).symm)
              clear HN4
              go_wp2_with fail
              exact ⟨⟨S.extract (j + 1) S.size, k + 1, acc, by simp, by omega, by simp, HOW3.out, HB3.out, hac, by rw [HD1.out]; exact HR3.out⟩, by simp; omega⟩
            · have HR3 := Lib.hid (show R = ([], k + 1, 3) from HN4.out)
              clear HN4
              go_wp2_with fail
              go_ret3
              rw [HR3.out]
              exact paend_none HB3.out rfl
            · have hR4 : R = if acc.length = 4096 then ([], k + 1, 5) else AS.rdLines (AS.lines [] (S.data.toList.drop (j + 1))) (k + 1) (acc ++ [i]) := HN4.out
              by_cases hfull : acc.length = 4096
              · have HR3 := Lib.hid (show R = ([], k + 1, 5) by rw [hR4, if_pos hfull])
                have e7 : decide ((4096 : Int) ≤ (acc.length : Int)) = true := by simp [hfull]
                clear HN4 hR4
                go_wp2_with fail
                go_ret3
                rw [HR3.out]
                exact paend_none HB3.out rfl
              · have HR3 := Lib.hid (show AS.rdLines (AS.lines [] (S.data.toList.drop (j + 1))) (k + 1) (acc ++ [i]) = R by rw [hR4, if_neg hfull])
                have e7 : decide ((4096 : Int) ≤ (acc.length : Int)) = false := by simp; omega
                clear HN4 hR4
                obtain ⟨x0, x1, x2, x3, x4⟩ := (show Blk (w2.alloc (.cells #[.int .u8 (i.op : Int), .int .i64 i.a, .int .i64 i.b, .int .i64 i.c, .int .i64 i.imm] 48)) w2.heap.size 48 (insV i) from Blk.new w2 _ _).five
                go_wp2_with (at_builtin; refine wpList_append_own _ rfl _ _ 22 rfl w.heap.size 48 i1 (.agg #[.int .u8 0, .int .i64 0, .int .i64 0, .int .i64 0, .int .i64 0]) 5 40 Tryd.underlying22 K0.out K1.out K2.out K3.out rfl (by decide) _ _ _ rfl (HOW3.out.alloc _) ⟨w2.heap.size + 1, 0, none⟩ 1 1 [.int .u8 (i.op : Int), .int .i64 i.a, .int .i64 i.b, .int .i64 i.c, .int .i64 i.imm] rfl rfl ?c1 ?c2 ?c3 ?c4 ?c5 ?_)
                case c1 =>
                  have hb := blk_second w2 48 48 (insV i) (insV i)
                  intro j u hj
                  have e : (⟨w2.heap.size + 1, 0, none⟩ : Addr).add j = ⟨w2.heap.size + 1, j, none⟩ := by unfold Addr.add; split <;> simp_all
                  rw [e]
                  exact (hb.cell j).trans (by rw [← List.getElem?_toArray] at hj; exact hj)
                case c2 => intro u hu; simp at hu; rcases hu with rfl | rfl | rfl | rfl | rfl <;> rfl
                case c3 => unfold maxLen; omega
                case c4 => omega
                case c5 => simp; omega
                intro v' w6 hown6 hg6 _
                have hlt6 := (HOW3.out.lt)
                have hB6 : Below w.heap.size w w6 := Below.grown (HB3.out.alloc (by simp; omega) (.cells (insV i) 48)) hg6 (by simp; omega) (fun k hk => (hlt6 k hk).1)
                have HB6 := Lib.hid hB6
                have HR6 := Lib.hid (show w6.ownsRow w.heap.size 48 5 v' (acc ++ [i]).length (insCells (acc ++ [i])) from (by
                  have h := hown6
                  simpa [insCells, insV, hs2] using h))
                clear hown6 hg6 hlt6 hB6
                go_wp2_with fail
                exact ⟨⟨S.extract (j + 1) S.size, k + 1, acc ++ [i], by simp, by omega, by simp, HR6.out, HB6.out, by simp; omega, by rw [HD1.out]; exact HR3.out⟩, by simp; omega⟩
          · have q1 : ¬ (j : Int) < (S.size : Int) := by omega
            have hjs : j = S.size := by omega
            subst hjs
            have hmin : min ((S.size : Int) + 1) (S.size : Int) = (S.size : Int) := by omega
            have hSS : S.extract 0 S.size = S := by
              apply ByteArray.ext
              apply Array.ext'
              rw [ByteArray.data_extract, Array.toList_extract, List.extract_eq_take_drop, List.drop_zero, Nat.sub_zero, List.take_of_length_le (by omega)]
            have hrn := HRDN.out
            rw [hSS] at hrn
            have HRDN := Lib.hid hrn
            clear hrn hSS
            go_wp2_with fail
            refine HRDN.out.mono ?_
            rintro e w2 ⟨rfl, hb2⟩
            have hOc := HOC.out
            obtain ⟨i, f⟩ := O
            simp only [] at hOc HN4
            rw [show insV i = #[.int .u8 (i.op : Int), .int .i64 i.a, .int .i64 i.b, .int .i64 i.c, .int .i64 i.imm] from rfl]
            have HB2 := Lib.hid (HBW.out.trans (hb2.mono hsw))
            have HOW2 := Lib.hid (own_below HOW.out hb2)
            have hs2 := HB2.out.size
            have HB3 := Lib.hid (HB2.out.alloc hs2 (.cells #[.int .u8 (i.op : Int), .int .i64 i.a, .int .i64 i.b, .int .i64 i.c, .int .i64 i.imm] 48))
            have HOW3 := Lib.hid (show (w2.alloc (.cells #[.int .u8 (i.op : Int), .int .i64 i.a, .int .i64 i.b, .int .i64 i.c, .int .i64 i.imm] 48)).ownsRow w.heap.size 48 5 (.slice A7 acc.length c7) acc.length (insCells acc) from HOW2.out.alloc _)
            obtain ⟨d1, d2, d3⟩ := HD.out S.size (by omega)
            have HD1 := Lib.hid d1
            clear hb2 HRDN HOC HD d1
            rcases hOc with rfl | rfl | rfl
            · have HR3 := Lib.hid (show AS.rdLines (AS.lines [] (S.data.toList.drop (S.size + 1))) (k + 1) acc = R from (HN4.out).symm)
              clear HN4
              go_wp2_with fail
              exact ⟨⟨S.extract S.size S.size, k + 1, acc, by simp, by omega, by simp, HOW3.out, HB3.out, hac, by rw [HD1.out]; exact HR3.out⟩, by simp; omega⟩
            · have HR3 := Lib.hid (show R = ([], k + 1, 3) from HN4.out)
              clear HN4
              go_wp2_with fail
              go_ret3
              rw [HR3.out]
              exact paend_none HB3.out rfl
            · have hR4 : R = if acc.length = 4096 then ([], k + 1, 5) else AS.rdLines (AS.lines [] (S.data.toList.drop (S.size + 1))) (k + 1) (acc ++ [i]) := HN4.out
              by_cases hfull : acc.length = 4096
              · have HR3 := Lib.hid (show R = ([], k + 1, 5) by rw [hR4, if_pos hfull])
                have e7 : decide ((4096 : Int) ≤ (acc.length : Int)) = true := by simp [hfull]
                clear HN4 hR4
                go_wp2_with fail
                go_ret3
                rw [HR3.out]
                exact paend_none HB3.out rfl
              · have HR3 := Lib.hid (show AS.rdLines (AS.lines [] (S.data.toList.drop (S.size + 1))) (k + 1) (acc ++ [i]) = R by rw [hR4, if_neg hfull])
                have e7 : decide ((4096 : Int) ≤ (acc.length : Int)) = false := by simp; omega
                clear HN4 hR4
                obtain ⟨x0, x1, x2, x3, x4⟩ := (show Blk (w2.alloc (.cells #[.int .u8 (i.op : Int), .int .i64 i.a, .int .i64 i.b, .int .i64 i.c, .int .i64 i.imm] 48)) w2.heap.size 48 (insV i) from Blk.new w2 _ _).five
                go_wp2_with (at_builtin; refine wpList_append_own _ rfl _ _ 22 rfl w.heap.size 48 i1 (.agg #[.int .u8 0, .int .i64 0, .int .i64 0, .int .i64 0, .int .i64 0]) 5 40 Tryd.underlying22 K0.out K1.out K2.out K3.out rfl (by decide) _ _ _ rfl (HOW3.out.alloc _) ⟨w2.heap.size + 1, 0, none⟩ 1 1 [.int .u8 (i.op : Int), .int .i64 i.a, .int .i64 i.b, .int .i64 i.c, .int .i64 i.imm] rfl rfl ?c1 ?c2 ?c3 ?c4 ?c5 ?_)
                case c1 =>
                  have hb := blk_second w2 48 48 (insV i) (insV i)
                  intro j u hj
                  have e : (⟨w2.heap.size + 1, 0, none⟩ : Addr).add j = ⟨w2.heap.size + 1, j, none⟩ := by unfold Addr.add; split <;> simp_all
                  rw [e]
                  exact (hb.cell j).trans (by rw [← List.getElem?_toArray] at hj; exact hj)
                case c2 => intro u hu; simp at hu; rcases hu with rfl | rfl | rfl | rfl | rfl <;> rfl
                case c3 => unfold maxLen; omega
                case c4 => omega
                case c5 => simp; omega
                intro v' w6 hown6 hg6 _
                have hlt6 := (HOW3.out.lt)
                have hB6 : Below w.heap.size w w6 := Below.grown (HB3.out.alloc (by simp; omega) (.cells (insV i) 48)) hg6 (by simp; omega) (fun k hk => (hlt6 k hk).1)
                have HB6 := Lib.hid hB6
                have HR6 := Lib.hid (show w6.ownsRow w.heap.size 48 5 v' (acc ++ [i]).length (insCells (acc ++ [i])) from (by
                  have h := hown6
                  simpa [insCells, insV, hs2] using h))
                clear hown6 hg6 hlt6 hB6
                go_wp2_with fail
                exact ⟨⟨S.extract S.size S.size, k + 1, acc ++ [i], by simp, by omega, by simp, HR6.out, HB6.out, by simp; omega, by rw [HD1.out]; exact HR3.out⟩, by simp; omega⟩
end
end Go.Proofs.YtgeagpplihecmaaDoor
