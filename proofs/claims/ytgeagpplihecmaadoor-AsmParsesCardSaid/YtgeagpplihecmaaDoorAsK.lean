/- The walk of asm.Parse (written by wip/genasparse.py). -/
import Derived.Test.YtgeagpplihecmaaDoorAsJ
import Derived.Test.YtgeagpplihecmaaDoorPlainAsm7
import Derived.Laws.AppendOwn
import Derived.Shelf.Strings.FieldsFuncGrows
namespace Go.Proofs.YtgeagpplihecmaaDoor
open Go.RowKit Go.Shelf
open AS (Ins)
/-- The library's variable holds some number. -/
def MaxIs (w : World) : Prop := ∃ m, w.cell? ⟨1, 0, none⟩ = some (.int .i64 m) ∧ 1 < w.heap.size
theorem MaxIs.below {w w' : World} (h : MaxIs w) (hb : Below w.heap.size w w') : MaxIs w' := by
  obtain ⟨m, h1, h2⟩ := h
  exact ⟨m, (hb.cell (p := ⟨_, 0, none⟩) h2).trans h1, Nat.lt_of_lt_of_le h2 hb.size⟩
theorem isblank_any (x : Nat) (w : World) : Calls Tryd.prog 32 #[.int .i32 (x : Int)] w fun e w' => e = .returned (.bool (AS.isB x)) ∧ Below w.heap.size w w' := by
  unfold AS.isB
  by_cases h1 : x = 32
  · subst h1
    go_enter Tryd.func32, Tryd.ntmps32
    go_wp2_with fail
    go_ret
    exact ⟨rfl, Below.refl _ _⟩
  · have e1 : ((x : Int) == 32) = false := beq_eq_false_iff_ne.2 (by omega)
    have e2 : ((x : Int) == 9) = (x == 9) := by
      by_cases h : x = 9
      · subst h; rfl
      · rw [beq_eq_false_iff_ne.2 h, beq_eq_false_iff_ne]; omega
    go_enter Tryd.func32, Tryd.ntmps32
    go_wp2_with fail
    go_ret
    refine ⟨?_, Below.refl _ _⟩
    rw [beq_eq_false_iff_ne.2 h1]
    simp
theorem eg_blank (args : Array Value) (w : World) : (callFunc 32 args).run Tryd.prog w = .ok (.enter 32 args) w := by kernel_rfl
/-- The rest of the lines, from line k on. -/
def PRel (B : World) (ls : List AS.Bytes) (R : List Ins × Nat × Nat) (v i : Value) (wr : World) : Prop :=
  ∃ k acc, k ≤ ls.length ∧ i = .int .i64 ((k : Nat) : Int) ∧ wr.ownsRow B.heap.size 48 5 v (acc : List Ins).length (insCells acc) ∧ Below B.heap.size B wr ∧ acc.length ≤ 4096 ∧ AS.rdLines (ls.drop k) k acc = R
/-- What Parse leaves. -/
def PaEnd (w : World) (R : List Ins × Nat × Nat) (e : Ending) (w' : World) : Prop :=
  ∃ A n c, e = .returned (.tuple #[.slice A n c, .int .i64 (R.2.1 : Int), .int .i64 (R.2.2 : Int)]) ∧ n = R.1.length ∧ Row w' A (insCells R.1) ∧ Below w.heap.size w w'
theorem paend_none {w w' : World} {k e : Nat} {v : Value} (hb : Below w.heap.size w w') (hv : v = .tuple #[.slice none 0 0, .int .i64 (k : Int), .int .i64 (e : Int)]) : PaEnd w ([], k, e) (.returned v) w' := by
  subst hv
  exact ⟨none, 0, 0, rfl, rfl, fun h => absurd rfl h, hb⟩
theorem row_own {w : World} {base : Nat} {e : TypeId} {size n c : Nat} {A : Option Addr} {xs : List Value} (h : w.ownsRow base e size (.slice A n c) n xs) (hx : xs ≠ [] → 0 < n) : Row w A xs := fun hn => by
  obtain ⟨g, cap, hv, _, hlt, _, hc⟩ := own_cells h (hx hn)
  injection hv with hA
  subst hA
  exact ⟨g, 0, rfl, hlt, fun i v hi => by rw [Nat.zero_add]; exact hc i v hi⟩
theorem infoIns : (Tryd.prog.info? 48).map (fun i => (i.zero, i.size, i.bytes)) = some (some (.agg #[.int .u8 0, .int .i64 0, .int .i64 0, .int .i64 0, .int .i64 0]), 5, 40) := by kernel_rfl
theorem lines_mem : ∀ (l cur : AS.Bytes), ∀ x ∈ AS.lines cur l, x.length ≤ cur.length + l.length
  | [], cur, x, h => by simp [AS.lines] at h; subst h; omega
  | b :: l, cur, x, h => by
    rw [AS.lines] at h
    split at h
    · rcases List.mem_cons.1 h with rfl | h
      · omega
      · have := lines_mem l [] x h; simp at this ⊢; omega
    · have := lines_mem l (cur ++ [b]) x h; simp at this ⊢; omega
theorem flds_le : ∀ (l cur : AS.Bytes), (AS.flds cur l).length ≤ l.length + 1 ∧ ∀ x ∈ AS.flds cur l, x.length ≤ cur.length + l.length
  | [], cur => by
    rw [AS.flds]
    split
    · simp
    · simp
  | b :: l, cur => by
    rw [AS.flds]
    split
    · split
      · obtain ⟨h1, h2⟩ := flds_le l []
        refine ⟨by simp; omega, fun x hx => ?_⟩
        have := h2 x hx; simp at this ⊢; omega
      · obtain ⟨h1, h2⟩ := flds_le l []
        refine ⟨by simp; omega, fun x hx => ?_⟩
        rcases List.mem_cons.1 hx with rfl | hx
        · omega
        · have := h2 x hx; simp at this ⊢; omega
    · obtain ⟨h1, h2⟩ := flds_le l (cur ++ [b])
      refine ⟨by simp; omega, fun x hx => ?_⟩
      have := h2 x hx; simp at this ⊢; omega
theorem cutC_le (l : AS.Bytes) : (AS.cutC l).length ≤ l.length := by
  unfold AS.cutC
  exact (List.takeWhile_prefix _).length_le
section
set_option maxHeartbeats 2000000
set_option maxRecDepth 100000
theorem parse_any (s : ByteArray) (w : World) (hs : s.size ≤ 4000000000) (hF : FmtIs w) (hM : MaxIs w) :
    Calls Tryd.prog 16 #[.string s] w (PaEnd w (AS.parse s.data.toList)) := by
  have hnot : ∀ (x : Bool) (w : World), (Op.unary .not (.bool x)).run Tryd.prog w = .ok (.bool (!x)) w := fun _ _ => rfl
  have hsl : s.data.toList.length = s.size := Array.length_toList
  have hpa : AS.parse s.data.toList = if 65536 < s.data.toList.length then ([], 0, 5) else AS.rdLines (AS.lines [] s.data.toList) 0 [] := rfl
  rw [hsl] at hpa
  generalize AS.parse s.data.toList = R at *
  by_cases hbig : 65536 < s.size
  · have e1 : decide ((65536 : Int) < (s.size : Int)) = true := by simp; omega
    have hR : R = ([], 0, 5) := by rw [hpa, if_pos hbig]
    have HR := Lib.hid hR
    clear hR hpa hF hM
    go_enter Tryd.func16, Tryd.ntmps16
    go_wp2_with fail
    go_ret3
    rw [HR.out]
    exact paend_none (Below.refl _ _) rfl
  have e1 : decide ((65536 : Int) < (s.size : Int)) = false := by simp; omega
  have hR : AS.rdLines (AS.lines [] s.data.toList) 0 [] = R := by rw [hpa, if_neg hbig]
  have HR := Lib.hid hR
  have HF := Lib.hid hF
  have HM := Lib.hid hM
  have HOC := Lib.hid (opcodes_any w hF)
  obtain ⟨i1, ki, kz0, kz1, kz2⟩ := info_parts infoIns
  have K0 := Lib.hid ki
  have K1 := Lib.hid kz0
  have K2 := Lib.hid kz1
  have K3 := Lib.hid kz2
  clear hR hpa hF hM ki kz0 kz1 kz2
  go_enter Tryd.func16, Tryd.ntmps16
  go_wp2_with fail
  refine HOC.out.mono ?_
  rintro e w1 ⟨tb, rfl, htb, hT1, hb1⟩
  obtain ⟨m1, hm1, _⟩ := HM.out.below hb1
  have HSP := Lib.hid (Tryd.strings_Split s ⟨#[10]⟩ m1 w1 (by omega) hm1 (by decide))
  have HB1 := Lib.hid hb1
  have HT1 := Lib.hid hT1
  have hls := AS.lines_split s
  have hmem := lines_mem s.data.toList []
  have hLs := AS.lines_len s.data.toList []
  rw [← hls] at HR hmem hLs
  clear hb1 hT1 hm1 HOC hls
  generalize hL : Lib.splitB ⟨#[10]⟩ 0 (Lib.countB s ⟨#[10]⟩) s = L at *
  have hLn : L.length = Lib.countB s ⟨#[10]⟩ + 1 := by
    rw [← hL]; exact AS.splitB_count s
  rw [← hLn] at HSP
  clear hL hLn
  have hLs' : L.length ≤ 65537 := by simp [AS.bts] at hLs; omega
  clear hLs
  go_wp2_with fail
  refine HSP.out.mono ?_
  rintro e w2 ⟨rfl, rfl⟩
  have hal : Below w1.heap.size w1 (w1.alloc (.cells (L.map Value.string).toArray 9)) := (Below.refl _ _).alloc (Nat.le_refl _) _
  have HB2 := Lib.hid (HB1.out.trans (hal.mono HB1.out.size))
  have HT2 := Lib.hid (show TabIs (w1.alloc (.cells (L.map Value.string).toArray 9)) tb from World.ownsMap.alloc HT1.out _)
  have HLK := Lib.hid (Blk.new w1 9 (L.map Value.string).toArray)
  have htb2 : tb < w1.heap.size := HT1.out.lt
  clear hal HSP HB1 HT1
  generalize hw2 : w1.alloc (.cells (L.map Value.string).toArray 9) = w2 at *
  have hs2 : w2.heap.size = w1.heap.size + 1 := by rw [← hw2]; simp
  clear hw2
  generalize w1.heap.size = lb at *
  have HST := Lib.hid (show PRel w2 (AS.bts L) R (.slice none 0 0) (.int .i64 0) w2 from ⟨0, [], Nat.zero_le _, rfl, World.ownsRow_nil _ _ _ _, Below.refl _ _, by simp, HR.out⟩)
  go_wp2_with fail
  go_loopw [7, 20] (fun v i wr => PRel w2 (AS.bts L) R v i wr) (fun _ i _ => L.length - (intOf i).toNat)
  case atStart => exact HST.out
  case round =>
    obtain ⟨k, acc, hk, rfl, hown, hbw, hac, hrd⟩ := hrel
    have hlb : (AS.bts L).length = L.length := by simp [AS.bts]
    obtain ⟨A7, c7, rfl⟩ := own_form hown
    have HOW := Lib.hid hown
    have HBW := Lib.hid hbw
    have HRD := Lib.hid hrd
    have hsw := hbw.size
    clear hown hbw hrd
    by_cases hlt : k < L.length
    · have q1 : (k : Int) < (L.length : Int) := by omega
      obtain ⟨x, hx⟩ : ∃ x, L[k]? = some x := ⟨_, List.getElem?_eq_getElem hlt⟩
      have c0 : wr.cell? ⟨lb, k, none⟩ = some (.string x) := by
        rw [(HLK.out.below HBW.out).cell]; simp [hx]
      have hxm : x.data.toList ∈ AS.bts L := by unfold AS.bts; exact List.mem_map_of_mem (List.mem_of_getElem? hx)
      have hxl := hmem _ hxm
      have hxs : x.data.toList.length = x.size := Array.length_toList
      obtain ⟨m2, hm2, _⟩ := (HM.out.below HB2.out).below HBW.out
      have HCU := Lib.hid (Tryd.strings_Cut x ⟨#[59]⟩ m2 wr (by simp at hxl; omega) hm2)
      rw [show (⟨#[59]⟩ : ByteArray).data.toList = [59] from rfl, AS.cut_eq] at HCU
      have hcl := cutC_le x.data.toList
      have hdr : (AS.bts L).drop k = x.data.toList :: (AS.bts L).drop (k + 1) := by
        have h1 : (AS.bts L)[k]? = some x.data.toList := by unfold AS.bts; rw [List.getElem?_map, hx]; rfl
        obtain ⟨h2, h3⟩ := List.getElem?_eq_some_iff.1 h1
        rw [← h3]; exact List.drop_eq_getElem_cons h2
      have hrd := HRD.out
      rw [hdr, AS.rdLines] at hrd
      generalize hy : AS.cutC x.data.toList = y at *
      have hwd : AS.words x.data.toList = AS.flds [] y := by unfold AS.words; rw [hy]
      rw [hwd] at hrd
      obtain ⟨hf1, hf2⟩ := flds_le y []
      have hys : (⟨y.toArray⟩ : ByteArray).size = y.length := by simp [ByteArray.size]
      have hye : (⟨y.toArray⟩ : ByteArray).data.toList = y := by simp
      have HFF := Lib.hid (fun n => Tryd.strings_FieldsFunc_grows 32 #[] eg_blank AS.isB ⟨y.toArray⟩ (wr.drewN n) (by rw [hys]; simp at hxl; omega) (fun W v _ _ => isblank_any v W))
      have hfe := AS.fields_eq ⟨y.toArray⟩
      rw [hye] at hfe
      have HRX := Lib.hid hrd
      clear hrd hdr hwd hxm hm2 HRD
      generalize hG : Lib.goFieldsP AS.isB ⟨y.toArray⟩ = G at *
      have hfl : G.length = (AS.flds [] y).length := by rw [← hfe]; simp [AS.bts]
      have hfs : ∀ z ∈ G, z.size ≤ maxLen := by
        intro z hz
        have h1 := hf2 z.data.toList (by rw [← hfe]; unfold AS.bts; exact List.mem_map_of_mem hz)
        have h2 : z.data.toList.length = z.size := Array.length_toList
        simp at h1 hxl
        unfold maxLen; omega
      have HFE := Lib.hid hfe
      have HFS := Lib.hid hfs
      clear hfe hfs hf2
      go_wp2_with fail
      refine HCU.out.mono ?_
      rintro e w3 ⟨rfl, nd, rfl⟩
      go_wp2_with fail
      refine (HFF.out nd).mono ?_
      rintro e w4 ⟨A4, rfl, hA4, hown4, hb4⟩
      have hb4' : Below wr.heap.size wr w4 := (below_drewN (Below.refl _ wr) nd).trans hb4
      have HB4 := Lib.hid hb4'
      have HO4 := Lib.hid hown4
      clear hb4 hown4 c0 HFF HCU
      cases hGG : G with
      | nil =>
        have HR2 := Lib.hid (show AS.rdLines ((AS.bts L).drop (k + 1)) (k + 1) acc = R by
          have h1 := HRX.out
          have h2 := HFE.out
          rw [hGG] at h2
          rw [← h2] at h1
          exact h1)
        clear HRX HFE HFS HO4 hGG
        go_wp2_with fail
        refine ⟨⟨k + 1, acc, by omega, by simp, own_below HOW.out HB4.out, HBW.out.trans (HB4.out.mono hsw), hac, HR2.out⟩, by simp [intOf]; omega⟩
      | cons wd ws =>
        have HR2 := Lib.hid (show (match AS.rdLine wd.data.toList (bts ws) with | none => ([], k + 1, 3) | some i => if acc.length = 4096 then ([], k + 1, 5) else AS.rdLines ((AS.bts L).drop (k + 1)) (k + 1) (acc ++ [i])) = R by
          have h1 := HRX.out
          have h2 := HFE.out
          rw [hGG] at h2
          rw [← h2] at h1
          exact h1)
        have hB24 := HBW.out.trans (HB4.out.mono hsw)
        have hn4 : (wd :: ws).length ≤ 1000000 := by
          have h1 := hfl
          rw [hGG] at h1
          rw [h1]
          simp at hxl
          omega
        have hfs := HFS.out
        rw [hGG] at hfs
        have ho4 := HO4.out
        rw [hGG] at ho4
        have HPL := Lib.hid (parseline_any tb wd ws (some ⟨A4, 0, none⟩) (wd :: ws).length (wd :: ws).length w4 (HF.out.below (HB2.out.trans (hB24.mono HB2.out.size))) (World.ownsMap.kept HT2.out (grown_of_below hB24 none) (by simp)) rfl (row_own ho4 (fun _ => by simp)) hfs hn4)
        have e5 : (((wd :: ws).length : Int) == 0) = false := beq_eq_false_iff_ne.2 (by simp; omega)
        have e6 : (((ws.length : Nat) : Int) + 1 == 0) = false := beq_eq_false_iff_ne.2 (by omega)
        have HB24 := Lib.hid hB24
        clear HRX HFE HFS HO4 hGG hfs ho4 hB24 hn4
        generalize AS.rdLine wd.data.toList (bts ws) = O at *
        go_wp2_with fail
        refine HPL.out.mono ?_
        rintro e w5 ⟨i, rfl, hio, hb5⟩
        rw [show insV i = #[.int .u8 (i.op : Int), .int .i64 i.a, .int .i64 i.b, .int .i64 i.c, .int .i64 i.imm] from rfl]
        have HB5 := Lib.hid (HB24.out.trans (hb5.mono HB24.out.size))
        have HOW5 := Lib.hid (own_below (own_below HOW.out HB4.out) hb5)
        clear hb5 HPL
        cases O with
        | none =>
          have hR3 : R = ([], k + 1, 3) := HR2.out.symm
          have HR3 := Lib.hid hR3
          have HBE := Lib.hid (HB2.out.trans ((HB5.out.alloc HB5.out.size (.cells (insV i) 48)).mono HB2.out.size))
          clear hR3 HR2
          go_wp2_with fail
          go_ret3
          rw [HR3.out]
          exact paend_none HBE.out rfl
        | some j =>
          have hij : i = j := hio j rfl
          subst hij
          clear hio
          by_cases hfull : acc.length = 4096
          · have hR3 : R = ([], k + 1, 5) := by
              have h := HR2.out
              simp only [hfull, if_true] at h
              exact h.symm
            have e7 : ((acc.length : Int) == 4096) = true := by simp [hfull]
            have HR3 := Lib.hid hR3
            have HBE := Lib.hid (HB2.out.trans ((HB5.out.alloc HB5.out.size (.cells (insV i) 48)).mono HB2.out.size))
            clear hR3 HR2
            go_wp2_with fail
            go_ret3
            rw [HR3.out]
            exact paend_none HBE.out rfl
          · have HR3 := Lib.hid (show AS.rdLines ((AS.bts L).drop (k + 1)) (k + 1) (acc ++ [i]) = R by
              have h := HR2.out
              simp only [if_neg hfull] at h
              exact h)
            have e7 : ((acc.length : Int) == 4096) = false := beq_eq_false_iff_ne.2 (by omega)
            clear HR2
            have hs5 := HB5.out.size
            go_wp2_with (at_builtin; refine wpList_append_own _ rfl _ _ 22 rfl w2.heap.size 48 i1 (.agg #[.int .u8 0, .int .i64 0, .int .i64 0, .int .i64 0, .int .i64 0]) 5 40 Tryd.underlying22 K0.out K1.out K2.out K3.out rfl (by decide) _ _ _ rfl ((HOW5.out.alloc _).alloc _) ⟨w5.heap.size + 1, 0, none⟩ 1 1 [.int .u8 (i.op : Int), .int .i64 i.a, .int .i64 i.b, .int .i64 i.c, .int .i64 i.imm] rfl rfl ?c1 ?c2 ?c3 ?c4 ?c5 ?_)
            case c1 =>
              have hb := blk_second w5 48 48 (insV i) (insV i)
              intro j u hj
              have e : (⟨w5.heap.size + 1, 0, none⟩ : Addr).add j = ⟨w5.heap.size + 1, j, none⟩ := by unfold Addr.add; split <;> simp_all
              rw [e]
              exact (hb.cell j).trans (by rw [← List.getElem?_toArray] at hj; exact hj)
            case c2 => intro u hu; simp at hu; rcases hu with rfl | rfl | rfl | rfl | rfl <;> rfl
            case c3 => unfold maxLen; omega
            case c4 => omega
            case c5 => simp; omega
            intro v' w6 hown6 hg6 _
            have hlt6 := (HOW5.out.lt)
            have hB6 : Below w2.heap.size w2 w6 := Below.grown ((HB5.out.alloc hs5 (.cells (insV i) 48)).alloc (by simp; omega) (.cells (insV i) 48)) hg6 (by simp; omega) (fun k hk => (hlt6 k hk).1)
            have HB6 := Lib.hid hB6
            have HR6 := Lib.hid (show w6.ownsRow w2.heap.size 48 5 v' (acc ++ [i]).length (insCells (acc ++ [i])) from (by
              have h := hown6
              simpa [insCells, insV, hs2] using h))
            clear hown6 hg6 hlt6 hB6
            go_wp2_with fail
            exact ⟨⟨k + 1, acc ++ [i], by omega, by simp, HR6.out, HB6.out, by simp; omega, HR3.out⟩, by simp [intOf]; omega⟩
    · have hkl : k = L.length := by omega
      have q1 : ¬ (k : Int) < (L.length : Int) := by omega
      have hR3 : R = (acc, 0, 0) := by
        have h := HRD.out
        rw [List.drop_eq_nil_of_le (by omega), AS.rdLines] at h
        exact h.symm
      have HR3 := Lib.hid hR3
      have HBE := Lib.hid (HB2.out.trans (HBW.out.mono HB2.out.size))
      clear hR3 HRD
      go_wp2_with fail
      go_ret3
      rw [HR3.out]
      exact ⟨A7, acc.length, c7, rfl, rfl, row_own HOW.out (fun h => by rcases Nat.eq_zero_or_pos acc.length with h0 | h0; exact absurd (by rw [List.eq_nil_of_length_eq_zero h0]; rfl) h; exact h0), HBE.out⟩
end
end Go.Proofs.YtgeagpplihecmaaDoor
