/- The walk of the reference's Read. -/
import Derived.Test.YtgeagpplihecmaaDoorAsS
namespace Go.Proofs.YtgeagpplihecmaaDoor
open Go.RowKit
open AS (Ins)
/-- What a line is read as: the instruction; 0 an empty line, 1 a valid instruction, -1 neither. -/
def rdOut (s : AS.Bytes) : Ins × Int := match AS.words s with
  | [] => (Ins.zero, 0)
  | w :: ws => match AS.rdLine w ws with
    | none => (Ins.zero, -1)
    | some i => (i, 1)
def ReEnd (w : World) (o : Ins × Int) (e : Ending) (w' : World) : Prop := e = .returned (.tuple #[.agg (insV o.1), .int .i64 o.2]) ∧ Below w.heap.size w w'
theorem set5 {W : World} {g : Nat} {i : Ins} (hk : Blk W g 48 (insV i)) (v0 v1 v2 v3 v4 : Value) :
    Blk (((((W.setCell ⟨g, 0, none⟩ v0).setCell ⟨g, 1, none⟩ v1).setCell ⟨g, 2, none⟩ v2).setCell ⟨g, 3, none⟩ v3).setCell ⟨g, 4, none⟩ v4) g 48 #[v0, v1, v2, v3, v4] :=
  ((((hk.set_ 0 v0).set_ 1 v1).set_ 2 v2).set_ 3 v3).set_ 4 v4
theorem set5b {w W : World} {g : Nat} (hb : Below w.heap.size w W) (hg : w.heap.size ≤ g) (v0 v1 v2 v3 v4 : Value) :
    Below w.heap.size w (((((W.setCell ⟨g, 0, none⟩ v0).setCell ⟨g, 1, none⟩ v1).setCell ⟨g, 2, none⟩ v2).setCell ⟨g, 3, none⟩ v3).setCell ⟨g, 4, none⟩ v4) :=
  ((((hb.setCell (p := ⟨g, 0, none⟩) hg v0).setCell (p := ⟨g, 1, none⟩) hg v1).setCell (p := ⟨g, 2, none⟩) hg v2).setCell (p := ⟨g, 3, none⟩) hg v3).setCell (p := ⟨g, 4, none⟩) hg v4
theorem row_drewN {w : World} {A : Option Addr} {xs : List Value} (h : Row w A xs) (n : Nat) : Row (w.drewN n) A xs := h
/-- What Read's inner loop knows: the operands from j on are still to be read. -/
def RxRel (wb : World) (ks : List Nat) (ws : List ByteArray) (i0 : Ins) (v : Value) (wr : World) : Prop :=
  ∃ j ij, j ≤ ks.length ∧ v = .int .i64 ((j : Nat) : Int) ∧ Below wb.heap.size wb wr ∧ Blk wr wb.heap.size 48 (insV ij) ∧ ij.op = i0.op ∧ AS.rrdAll (ks.drop j) (bts (ws.drop j)) ij = AS.rrdAll ks (bts ws) i0
theorem rx_step {wb wr : World} {ks : List Nat} {ws : List ByteArray} {i0 ij : Ins} {j k : Nat} {v : Int} (hj : j < ks.length) (hb : Below wb.heap.size wb wr) (h9 : Blk wr wb.heap.size 48 (insV ij)) (hk : k ≤ 3) (hop : ij.op = i0.op)
    (hr : AS.rrdAll (ks.drop (j + 1)) (bts (ws.drop (j + 1))) (ij.put k v) = AS.rrdAll ks (bts ws) i0) : RxRel wb ks ws i0 (.int .i64 ((j + 1 : Nat) : Int)) (wr.setCell ⟨wb.heap.size, k + 1, none⟩ (.int .i64 v)) := by
  refine ⟨j + 1, ij.put k v, hj, rfl, hb.setCell (p := ⟨wb.heap.size, k + 1, none⟩) (Nat.le_refl _) _, ?_, (AS.put_op _ _ _).trans hop, hr⟩
  rw [← get_put _ _ _ hk]
  exact h9.set_ _ _
theorem rrd_at {ks : List Nat} {ws : List ByteArray} {ij : Ins} {j k : Nat} {s : ByteArray} (hk : ks[j]? = some k) (hs : ws[j]? = some s) :
    AS.rrdAll (ks.drop j) (bts (ws.drop j)) ij = (AS.rrd k s.data.toList).bind fun v => AS.rrdAll (ks.drop (j + 1)) (bts (ws.drop (j + 1))) (ij.put k v) := by
  obtain ⟨h1, h2⟩ := List.getElem?_eq_some_iff.1 hk
  obtain ⟨h3, h4⟩ := List.getElem?_eq_some_iff.1 hs
  rw [List.drop_eq_getElem_cons h1, List.drop_eq_getElem_cons h3, h2, h4]
  rfl
theorem cut_at : ∀ (l : AS.Bytes), AS.cutC l = l.take (AS.cutC l).length ∧ (∀ k b, k < (AS.cutC l).length → l[k]? = some b → b ≠ 59) ∧ ((AS.cutC l).length = l.length ∨ l[(AS.cutC l).length]? = some 59)
  | [] => by simp [AS.cutC]
  | b :: l => by
    obtain ⟨h1, h2, h3⟩ := cut_at l
    by_cases hb : b = 59
    · subst hb
      have : AS.cutC (59 :: l) = [] := by simp [AS.cutC]
      rw [this]
      exact ⟨rfl, fun k c hk => by simp at hk, .inr rfl⟩
    · have : AS.cutC (b :: l) = b :: AS.cutC l := by simp [AS.cutC, hb]
      rw [this]
      refine ⟨?_, ?_, ?_⟩
      · rw [List.length_cons, List.take_succ_cons, ← h1]
      · intro k c hk hc
        match k with
        | 0 => simp at hc; subst hc; exact hb
        | k + 1 => exact h2 k c (by simp at hk; omega) (by simpa using hc)
      · rcases h3 with h3 | h3
        · left; simp [h3]
        · right; simpa using h3
section
set_option maxHeartbeats 4000000
set_option maxRecDepth 100000
theorem read_any (s : ByteArray) (w : World) (hs : s.size ≤ 100000) : Calls Tryd.prog 37 #[.string s] w (ReEnd w (rdOut s.data.toList)) := by
  have hnot : ∀ (x : Bool) (w : World), (Op.unary .not (.bool x)).run Tryd.prog w = .ok (.bool (!x)) w := fun _ _ => rfl
  have hsl : s.data.toList.length = s.size := Array.length_toList
  obtain ⟨c1, c2, c3⟩ := cut_at s.data.toList
  have hcle : (AS.cutC s.data.toList).length ≤ s.size := by
    have := congrArg List.length c1
    rw [List.length_take] at this
    omega
  have hwo : AS.words s.data.toList = AS.flds [] (AS.cutC s.data.toList) := rfl
  have hout : rdOut s.data.toList = match AS.words s.data.toList with
    | [] => (Ins.zero, 0)
    | w :: ws => match AS.rdLine w ws with
      | none => (Ins.zero, -1)
      | some i => (i, 1) := rfl
  have hcut : ∀ (k : Nat), k < (AS.cutC s.data.toList).length → ∀ h, ((s[k]'h).toNat : Int) ≠ 59 := fun k hk h hc => by
    have h1 := c2 k _ hk (List.getElem?_eq_getElem (by omega))
    refine h1 (UInt8.toNat.inj ?_)
    show (s.data.toList[k]).toNat = 59
    have h2 : s.data.toList[k] = s[k] := rfl
    rw [h2]
    omega
  have h59 : (AS.cutC s.data.toList).length < s.size → ∃ h, ((s[(AS.cutC s.data.toList).length]'h).toNat : Int) = 59 := fun hlt => by
    rcases c3 with h | h
    · omega
    · refine ⟨hlt, ?_⟩
      obtain ⟨h1, h2⟩ := List.getElem?_eq_some_iff.1 h
      have h3 : s[(AS.cutC s.data.toList).length] = s.data.toList[(AS.cutC s.data.toList).length] := rfl
      rw [h3, h2]
      rfl
  have hB0 : Below w.heap.size w (w.alloc (.cells (insV Ins.zero) 48)) := (Below.refl _ _).alloc (Nat.le_refl _) _
  have HB0 := Lib.hid hB0
  have HK0 := Lib.hid (show Blk (w.alloc (.cells (insV Ins.zero) 48)) w.heap.size _ (insV Ins.zero) from Blk.new w 48 (insV Ins.zero))
  have HC1 := Lib.hid c1
  clear c1 c2 c3 hB0
  generalize AS.cutC s.data.toList = P at *
  have HCUT := Lib.hid hcut
  have H59 := Lib.hid h59
  rw [hwo] at hout
  clear hcut h59 hwo
  generalize rdOut s.data.toList = R at *
  have HOUT := Lib.hid hout
  have HNA := Lib.hid (fun W => names_any W)
  clear hout
  by_cases hp : P.length < s.size
  · have HSd := Lib.hid (show (s.extract 0 P.length).data.toList = P by
      rw [ByteArray.data_extract, Array.toList_extract, List.extract_eq_take_drop, List.drop_zero, Nat.sub_zero]; exact HC1.out.symm)
    have hSs : (s.extract 0 P.length).size ≤ 100000 := by
      have h1 : (s.extract 0 P.length).data.toList.length = (s.extract 0 P.length).size := Array.length_toList
      rw [HSd.out] at h1
      omega
    have HWD := Lib.hid (fun W => rwords_any (s.extract 0 P.length) W hSs)
    rw [HSd.out] at HWD
    go_enter Tryd.func37, Tryd.ntmps37
    go_wp2_with fail
    go_loopw [0, 4] (fun s0 v wr => ∃ k : Nat, k ≤ P.length ∧ s0 = .string s ∧ v = .int .i64 (k : Int) ∧ wr = w.alloc (.cells (insV Ins.zero) 48)) (fun _ v _ => P.length - (intOf v).toNat)
    case atStart => exact ⟨0, Nat.zero_le _, rfl, rfl, rfl⟩
    case round =>
      obtain ⟨k, hk, rfl, rfl, rfl⟩ := hrel
      by_cases hlt : k < P.length
      · have hks : k < s.size := by omega
        have h1 := HCUT.out k hlt hks
        have e1 : ((s[k].toNat : Int) == 59) = false := beq_eq_false_iff_ne.2 h1
        have q0 : (k : Int) < (s.size : Int) := by omega
        clear h1
        go_wp2_with fail
        exact ⟨⟨k + 1, by omega, by simp, by simp, by simp⟩, by simp [intOf]; omega⟩
      · have hkp : k = P.length := by omega
        subst hkp
        obtain ⟨hks, h1⟩ := H59.out hp
        have e1 : ((s[P.length].toNat : Int) == 59) = true := beq_iff_eq.2 h1
        have q0 : (P.length : Int) < (s.size : Int) := by omega
        clear h1
        go_wp2_with fail
        refine (HWD.out _).mono ?_
        rintro e w2 ⟨A, c, L, rfl, hbt, hLl, hrow, hb2⟩
        have HB2 := Lib.hid (HB0.out.trans (hb2.mono HB0.out.size))
        have HK2 := Lib.hid (HK0.out.below hb2)
        clear hb2
        cases L with
        | nil =>
          have HR1 := Lib.hid (show R = (Ins.zero, 0) by rw [HOUT.out, ← hbt]; rfl)
          obtain ⟨r0, r1, r2, r3, r4⟩ := HK2.out.five
          have g0 := HK2.out.frozen 0
          have g1 := HK2.out.frozen 1
          have g2 := HK2.out.frozen 2
          have g3 := HK2.out.frozen 3
          have g4 := HK2.out.frozen 4
          have HQ := Lib.hid (fun v0 v1 v2 v3 v4 => set5 HK2.out v0 v1 v2 v3 v4)
          have HQB := Lib.hid (fun v0 v1 v2 v3 v4 => set5b HB2.out (Nat.le_refl _) v0 v1 v2 v3 v4)
          clear hbt hrow hLl
          go_wp2_with fail
          refine bodyPost_ret (ins2_result (i := Ins.zero) rfl rfl (HQ.out _ _ _ _ _)) rfl ?_
          rw [HR1.out]
          exact ⟨rfl, HQB.out _ _ _ _ _⟩
        | cons wd ws =>
          have HR1 := Lib.hid (show R = match AS.rdLine wd.data.toList (bts ws) with | none => (Ins.zero, -1) | some i => (i, 1) by rw [HOUT.out, ← hbt]; rfl)
          have hRow2 : Row w2 A (strRow (wd :: ws)) := hrow
          obtain ⟨rb, ro, rfl, hrb, c0⟩ := hRow2.str (k := 0) (s := wd) rfl
          have HROW2 := Lib.hid hRow2
          generalize hn : (wd :: ws).length = n at *
          have HN := Lib.hid hn
          have q0 : ((n : Int) == 0) = false := by rw [← hn]; simp; omega
          have hsz : ∀ x ∈ wd :: ws, x.size ≤ 100000 := fun x hx => by
            obtain ⟨_, hf⟩ := flds_le P []
            have h1 : x.data.toList ∈ AS.flds [] P := by rw [← hbt]; unfold AS.bts; exact List.mem_map_of_mem hx
            have h2 := hf _ h1
            have h3 : x.data.toList.length = x.size := Array.length_toList
            simp at h2
            omega
          have HSZ := Lib.hid hsz
          clear hbt hrow hLl hn hRow2 hsz
          go_wp2_with fail
          refine (HNA.out _).mono ?_
          rintro e w3 ⟨rfl, rfl⟩
          have HB3 := Lib.hid (HB2.out.alloc HB2.out.size (.cells namesCells 9))
          have HK3 := Lib.hid (HK2.out.alloc (.cells namesCells 9))
          have HR3 := Lib.hid (HROW2.out.below ((Below.refl w2.heap.size w2).alloc (Nat.le_refl _) (.cells namesCells 9)))
          have HN3 := Lib.hid (fun k (hk : k < 30) => name_cell k hk w2)
          have hgw : w.heap.size ≤ w2.heap.size := HB2.out.size
          generalize w2.alloc (.cells namesCells 9) = w3 at *
          generalize w2.heap.size = gn at *
          clear HB2 HK2 HROW2 c0 hrb
          go_wp2_with fail
          go_loopw [7] (fun v wr => ∃ k nd : Nat, k ≤ 30 ∧ v = .int .i64 (k : Int) ∧ (∀ j, j < k → AS.name j ≠ wd.data.toList) ∧ wr = w3.drewN nd) (fun v _ => 30 - (intOf v).toNat)
          case atStart => exact ⟨0, 0, by omega, rfl, fun j hj => (by omega), rfl⟩
          case round =>
            obtain ⟨k, nd, hk, rfl, hno, hwr⟩ := hrel
            have HNO := Lib.hid hno
            have HBR := Lib.hid (show Below w.heap.size w wr by rw [hwr]; exact below_drewN HB3.out nd)
            have HKR := Lib.hid (show Blk wr w.heap.size 48 (insV Ins.zero) by rw [hwr]; exact HK3.out.drewN nd)
            have HRR := Lib.hid (show Row wr (some ⟨rb, ro, none⟩) (strRow (wd :: ws)) by rw [hwr]; exact row_drewN HR3.out nd)
            have hNR : ∀ j, j < 30 → wr.cell? ⟨gn, j, none⟩ = some (.string ⟨(AS.name j).toArray⟩) := by rw [hwr]; exact HN3.out
            have HWR := Lib.hid hwr
            clear hno hwr
            by_cases hlt : k < 30
            · have c1 := hNR k hlt
              obtain ⟨_, _, e0, hrb, c2⟩ := HRR.out.str (k := 0) (s := wd) rfl
              injection e0 with e0
              injection e0 with e0a e0b e0c
              subst e0a e0b
              have c2 : wr.cell? ⟨rb, ro, none⟩ = some (.string wd) := c2
              have q1 : (k : Int) < 30 := by omega
              have q3 : (0 : Int) < (n : Int) := by rw [← HN.out]; simp
              have HNM : Hid ((⟨(AS.name k).toArray⟩ : ByteArray).data.toList = AS.name k) := Lib.hid rfl
              generalize (⟨(AS.name k).toArray⟩ : ByteArray) = NM at *
              clear hNR
              by_cases heq : AS.name k = wd.data.toList
              · have e2 : (NM.toList == wd.toList) = true := by
                  rw [Lib.toList_data, Lib.toList_data, HNM.out]; exact beq_iff_eq.2 heq
                have hop : AS.opIx AS.names wd.data.toList = some k := by rw [← heq]; exact (AS.name_ok k hlt).2.2.1
                have hrl : AS.rdLine wd.data.toList (bts ws) = if (AS.shape k).length = (bts ws).length then (AS.rrdAll (AS.shape k) (bts ws) { Ins.zero with op := k }).bind fun i => if AS.valid i then some i else none else none := by
                  rw [AS.rdLine_rrd, hop]; rfl
                have HRL := Lib.hid hrl
                have hR1 := HR1.out
                clear HR1
                generalize AS.rdLine wd.data.toList (bts ws) = RL at *
                have HR1 := Lib.hid hR1
                have HSH := Lib.hid (fun W => shape_any k hlt W)
                obtain ⟨SH, hSH⟩ : ∃ SH : ByteArray, SH = ⟨(rshape k).toArray⟩ := ⟨_, rfl⟩
                have hrs : rshape k = (AS.shape k).map rlet := by unfold rshape; rw [if_pos hlt]
                have hSz : SH.size = (AS.shape k).length := by rw [hSH, hrs]; simp [ByteArray.size]
                have hSg : ∀ (j m : Nat), (AS.shape k)[j]? = some m → ∀ h, SH[j]'h = rlet m := by
                  intro j m hm h
                  subst hSH
                  show (rshape k).toArray[j]'_ = _
                  rw [List.getElem_toArray]
                  have : (rshape k)[j]? = some (rlet m) := by rw [hrs, List.getElem?_map, hm]; rfl
                  exact (List.getElem?_eq_some_iff.1 this).2
                rw [← hSH] at HSH
                have HSG := Lib.hid hSg
                have hl3 := AS.shape_len k
                have HSHLE := Lib.hid (AS.shape_le k)
                have hnb : (bts ws).length + 1 = n := by rw [← HN.out]; simp [bts]
                have p1 : (0 : Int) ≤ (k : Int) := by omega
                clear hop hrl hR1 hSg hSH hrs heq
                go_wp2_with fail
                go_quiet (fail)
                go_wp2_with fail
                refine (HSH.out _).mono ?_
                rintro e w4 ⟨rfl, hw4⟩
                have HB4 := Lib.hid (show Below w.heap.size w w4 by rw [← hw4]; exact below_drewN HBR.out _)
                have HK4 := Lib.hid (show Blk w4 w.heap.size 48 (insV Ins.zero) by rw [← hw4]; exact HKR.out.drewN _)
                have HR4 := Lib.hid (show Row w4 (some ⟨rb, ro, none⟩) (strRow (wd :: ws)) by rw [← hw4]; exact row_drewN HRR.out _)
                clear hw4 c1 c2 hrb HBR HKR HRR HWR HNO HSH e2 HNM
                have hlt4 : w.heap.size < w4.heap.size := HK4.out.lt
                have HB5 := Lib.hid (HB4.out.alloc HB4.out.size (.cells #[.int .u8 (k : Int), .int .i64 0, .int .i64 0, .int .i64 0, .int .i64 0] 48))
                have HK5 := Lib.hid (HK4.out.alloc (.cells #[.int .u8 (k : Int), .int .i64 0, .int .i64 0, .int .i64 0, .int .i64 0] 48))
                by_cases hlen : (AS.shape k).length = (bts ws).length
                · have e3 : ((n : Int) != (SH.size : Int) + 1) = false := by simp; omega
                  have HRL2 := Lib.hid (show RL = (AS.rrdAll (AS.shape k) (bts ws) { Ins.zero with op := k }).bind fun i => if AS.valid i then some i else none by rw [HRL.out, if_pos hlen])
                  have HST := Lib.hid (show RxRel w4 (AS.shape k) ws { Ins.zero with op := k } (.int .i64 0) (w4.alloc (.cells (insV { Ins.zero with op := k }) 48)) from ⟨0, _, Nat.zero_le _, rfl, (Below.refl _ _).alloc (Nat.le_refl _) _, Blk.new w4 _ _, rfl, rfl⟩)
                  clear HRL
                  go_wp2_with fail
                  go_loopw [10] (fun v wr => RxRel w4 (AS.shape k) ws { Ins.zero with op := k } v wr) (fun v _ => 3 - (intOf v).toNat)
                  case atStart => exact HST.out
                  case round =>
                    obtain ⟨j, ij, hj, rfl, hbx, hbk, hopj, hrd⟩ := hrel
                    have HBX := Lib.hid hbx
                    have HBK := Lib.hid hbk
                    have HBW := Lib.hid (HB4.out.trans (hbx.mono HB4.out.size))
                    have HKW := Lib.hid (HK4.out.below hbx)
                    obtain ⟨x0, x1, x2, x3, x4⟩ := hbk.five
                    have y0 := hbk.frozen 0
                    have y1 := hbk.frozen 1
                    have y2 := hbk.frozen 2
                    have y3 := hbk.frozen 3
                    have y4 := hbk.frozen 4
                    have HOPJ := Lib.hid hopj
                    clear hopj hbk
                    by_cases hltj : j < (AS.shape k).length
                    · obtain ⟨kk, hkk⟩ : ∃ kk, (AS.shape k)[j]? = some kk := ⟨_, List.getElem?_eq_getElem hltj⟩
                      have hk3 : kk ≤ 3 := HSHLE.out kk (List.mem_of_getElem? hkk)
                      obtain ⟨x, hx⟩ : ∃ x, ws[j]? = some x := ⟨_, List.getElem?_eq_getElem (by simp [bts] at hlen; omega)⟩
                      have hL := HSG.out j kk hkk
                      obtain ⟨_, _, e0, hrb, cx⟩ := (HR4.out.below hbx).str (k := j + 1) (s := x) (by simpa using hx)
                      injection e0 with e0
                      injection e0 with e0a e0b e0c
                      subst e0a e0b
                      have hxs := HSZ.out x (List.mem_cons_of_mem _ (List.mem_of_getElem? hx))
                      have HRG := Lib.hid (fun W => rregister_any x W hxs)
                      have HNU := Lib.hid (fun W => rnumber_any x W hxs)
                      rw [rrd_at hkk hx] at hrd
                      have q4 : (j : Int) < (SH.size : Int) := by omega
                      have q5 : (j : Int) + 1 < (n : Int) := by omega
                      clear hbx hx hkk hxs
                      have hcase : kk = 0 ∨ kk = 1 ∨ kk = 2 ∨ kk = 3 := by omega
                      rcases hcase with rfl | rfl | rfl | rfl
                      · rw [show rlet 0 = 97 from rfl] at hL
                        rw [show AS.rrd 0 x.data.toList = AS.rreg x.data.toList from rfl] at hrd
                        generalize AS.rreg x.data.toList = O at *
                        have HRD := Lib.hid hrd
                        clear hrd
                        go_wp2_with fail
                        refine (HRG.out _).mono ?_
                        rintro e w5 ⟨v5, rfl, hv5, rfl⟩
                        cases O with
                        | none =>
                          have HR9 := Lib.hid (show R = (Ins.zero, -1) by rw [HR1.out, HRL2.out, ← HRD.out]; rfl)
                          obtain ⟨r0, r1, r2, r3, r4⟩ := HKW.out.five
                          have g0 := HKW.out.frozen 0
                          have g1 := HKW.out.frozen 1
                          have g2 := HKW.out.frozen 2
                          have g3 := HKW.out.frozen 3
                          have g4 := HKW.out.frozen 4
                          have HQ := Lib.hid (fun v0 v1 v2 v3 v4 => set5 HKW.out v0 v1 v2 v3 v4)
                          have HQB := Lib.hid (fun v0 v1 v2 v3 v4 => set5b HBW.out (Nat.le_refl _) v0 v1 v2 v3 v4)
                          clear HRD
                          go_wp2_with fail
                          refine bodyPost_ret (ins2_result (i := Ins.zero) rfl rfl (HQ.out _ _ _ _ _)) rfl ?_
                          rw [HR9.out]
                          exact ⟨rfl, HQB.out _ _ _ _ _⟩
                        | some v =>
                          have hvv := hv5 v rfl
                          subst hvv
                          have HST5 := Lib.hid (rx_step hltj HBX.out HBK.out hk3 HOPJ.out HRD.out)
                          clear HRD
                          go_wp2_with fail
                          refine ⟨?_, by simp [intOf]; omega⟩
                          have h5 := HST5.out
                          simp
                          refine ⟨_, _, by simpa using h5, rfl, rfl, ?_⟩
                          omega
                      · rw [show rlet 1 = 98 from rfl] at hL
                        rw [show AS.rrd 1 x.data.toList = AS.rreg x.data.toList from rfl] at hrd
                        generalize AS.rreg x.data.toList = O at *
                        have HRD := Lib.hid hrd
                        clear hrd
                        go_wp2_with fail
                        refine (HRG.out _).mono ?_
                        rintro e w5 ⟨v5, rfl, hv5, rfl⟩
                        cases O with
                        | none =>
                          have HR9 := Lib.hid (show R = (Ins.zero, -1) by rw [HR1.out, HRL2.out, ← HRD.out]; rfl)
                          obtain ⟨r0, r1, r2, r3, r4⟩ := HKW.out.five
                          have g0 := HKW.out.frozen 0
                          have g1 := HKW.out.frozen 1
                          have g2 := HKW.out.frozen 2
                          have g3 := HKW.out.frozen 3
                          have g4 := HKW.out.frozen 4
                          have HQ := Lib.hid (fun v0 v1 v2 v3 v4 => set5 HKW.out v0 v1 v2 v3 v4)
                          have HQB := Lib.hid (fun v0 v1 v2 v3 v4 => set5b HBW.out (Nat.le_refl _) v0 v1 v2 v3 v4)
                          clear HRD
                          go_wp2_with fail
                          refine bodyPost_ret (ins2_result (i := Ins.zero) rfl rfl (HQ.out _ _ _ _ _)) rfl ?_
                          rw [HR9.out]
                          exact ⟨rfl, HQB.out _ _ _ _ _⟩
                        | some v =>
                          have hvv := hv5 v rfl
                          subst hvv
                          have HST5 := Lib.hid (rx_step hltj HBX.out HBK.out hk3 HOPJ.out HRD.out)
                          clear HRD
                          go_wp2_with fail
                          refine ⟨?_, by simp [intOf]; omega⟩
                          have h5 := HST5.out
                          simp
                          refine ⟨_, _, by simpa using h5, rfl, rfl, ?_⟩
                          omega
                      · rw [show rlet 2 = 99 from rfl] at hL
                        rw [show AS.rrd 2 x.data.toList = AS.rreg x.data.toList from rfl] at hrd
                        generalize AS.rreg x.data.toList = O at *
                        have HRD := Lib.hid hrd
                        clear hrd
                        go_wp2_with fail
                        refine (HRG.out _).mono ?_
                        rintro e w5 ⟨v5, rfl, hv5, rfl⟩
                        cases O with
                        | none =>
                          have HR9 := Lib.hid (show R = (Ins.zero, -1) by rw [HR1.out, HRL2.out, ← HRD.out]; rfl)
                          obtain ⟨r0, r1, r2, r3, r4⟩ := HKW.out.five
                          have g0 := HKW.out.frozen 0
                          have g1 := HKW.out.frozen 1
                          have g2 := HKW.out.frozen 2
                          have g3 := HKW.out.frozen 3
                          have g4 := HKW.out.frozen 4
                          have HQ := Lib.hid (fun v0 v1 v2 v3 v4 => set5 HKW.out v0 v1 v2 v3 v4)
                          have HQB := Lib.hid (fun v0 v1 v2 v3 v4 => set5b HBW.out (Nat.le_refl _) v0 v1 v2 v3 v4)
                          clear HRD
                          go_wp2_with fail
                          refine bodyPost_ret (ins2_result (i := Ins.zero) rfl rfl (HQ.out _ _ _ _ _)) rfl ?_
                          rw [HR9.out]
                          exact ⟨rfl, HQB.out _ _ _ _ _⟩
                        | some v =>
                          have hvv := hv5 v rfl
                          subst hvv
                          have HST5 := Lib.hid (rx_step hltj HBX.out HBK.out hk3 HOPJ.out HRD.out)
                          clear HRD
                          go_wp2_with fail
                          refine ⟨?_, by simp [intOf]; omega⟩
                          have h5 := HST5.out
                          simp
                          refine ⟨_, _, by simpa using h5, rfl, rfl, ?_⟩
                          omega
                      · rw [show rlet 3 = 105 from rfl] at hL
                        rw [show AS.rrd 3 x.data.toList = AS.rnum x.data.toList from rfl] at hrd
                        generalize AS.rnum x.data.toList = O at *
                        have HRD := Lib.hid hrd
                        clear hrd
                        go_wp2_with fail
                        refine (HRG.out _).mono ?_
                        rintro e w5 ⟨v5, rfl, hv5, rfl⟩
                        go_wp2_with fail
                        refine (HNU.out _).mono ?_
                        rintro e w6 ⟨v6, rfl, hv6, rfl⟩
                        cases O with
                        | none =>
                          have HR9 := Lib.hid (show R = (Ins.zero, -1) by rw [HR1.out, HRL2.out, ← HRD.out]; rfl)
                          obtain ⟨r0, r1, r2, r3, r4⟩ := HKW.out.five
                          have g0 := HKW.out.frozen 0
                          have g1 := HKW.out.frozen 1
                          have g2 := HKW.out.frozen 2
                          have g3 := HKW.out.frozen 3
                          have g4 := HKW.out.frozen 4
                          have HQ := Lib.hid (fun v0 v1 v2 v3 v4 => set5 HKW.out v0 v1 v2 v3 v4)
                          have HQB := Lib.hid (fun v0 v1 v2 v3 v4 => set5b HBW.out (Nat.le_refl _) v0 v1 v2 v3 v4)
                          clear HRD
                          go_wp2_with fail
                          refine bodyPost_ret (ins2_result (i := Ins.zero) rfl rfl (HQ.out _ _ _ _ _)) rfl ?_
                          rw [HR9.out]
                          exact ⟨rfl, HQB.out _ _ _ _ _⟩
                        | some v =>
                          have hvv := hv6 v rfl
                          subst hvv
                          have HST5 := Lib.hid (rx_step hltj HBX.out HBK.out hk3 HOPJ.out HRD.out)
                          clear HRD
                          go_wp2_with fail
                          refine ⟨?_, by simp [intOf]; omega⟩
                          have h5 := HST5.out
                          simp
                          refine ⟨_, _, by simpa using h5, rfl, rfl, ?_⟩
                          omega
                    · have hjk : j = (AS.shape k).length := by omega
                      have hlw : ws.length = (AS.shape k).length := by simp [bts] at hlen; omega
                      rw [show (AS.shape k).drop j = [] from by rw [hjk]; exact List.drop_length, show bts (ws.drop j) = [] from by rw [hjk, ← hlw, List.drop_length]; rfl, AS.rrdAll] at hrd
                      have hRv : RL = if AS.valid ij then some ij else none := by rw [HRL2.out, ← hrd]; rfl
                      have q4 : ¬ (j : Int) < (SH.size : Int) := by omega
                      have hop30 : ij.op < 30 := by rw [HOPJ.out]; exact hlt
                      have HVA := Lib.hid (fun W => (show Calls Tryd.prog 58 #[.agg #[.int .u8 (ij.op : Int), .int .i64 ij.a, .int .i64 ij.b, .int .i64 ij.c, .int .i64 ij.imm]] W _ from valid4_any ij hop30 W))
                      have HRV := Lib.hid hRv
                      clear hRv hrd hjk hlw hbx
                      go_wp2_with fail
                      refine (HVA.out _).mono ?_
                      rintro e w6 ⟨rfl, hb6⟩
                      have HB6 := Lib.hid (HBW.out.trans (hb6.mono HBW.out.size))
                      have HK6 := Lib.hid (HKW.out.below hb6)
                      obtain ⟨z0, z1, z2, z3, z4⟩ := (HBK.out.below hb6).five
                      clear x0 x1 x2 x3 x4 y0 y1 y2 y3 y4 hb6
                      obtain ⟨r0, r1, r2, r3, r4⟩ := HK6.out.five
                      have g0 := HK6.out.frozen 0
                      have g1 := HK6.out.frozen 1
                      have g2 := HK6.out.frozen 2
                      have g3 := HK6.out.frozen 3
                      have g4 := HK6.out.frozen 4
                      have HQ := Lib.hid (fun v0 v1 v2 v3 v4 => set5 HK6.out v0 v1 v2 v3 v4)
                      have HQB := Lib.hid (fun v0 v1 v2 v3 v4 => set5b HB6.out (Nat.le_refl _) v0 v1 v2 v3 v4)
                      cases hv : AS.valid ij with
                      | false =>
                        have HR9 := Lib.hid (show R = (Ins.zero, -1) by rw [HR1.out, HRV.out, hv]; rfl)
                        clear hv
                        go_wp2_with fail
                        refine bodyPost_ret (ins2_result (i := Ins.zero) rfl rfl (HQ.out _ _ _ _ _)) rfl ?_
                        rw [HR9.out]
                        exact ⟨rfl, HQB.out _ _ _ _ _⟩
                      | true =>
                        have HR9 := Lib.hid (show R = (ij, 1) by rw [HR1.out, HRV.out, hv]; rfl)
                        clear hv
                        go_wp2_with fail
                        refine bodyPost_ret (ins2_result (i := ij) rfl rfl (HQ.out _ _ _ _ _)) rfl ?_
                        rw [HR9.out]
                        exact ⟨rfl, HQB.out _ _ _ _ _⟩
                · have e3 : ((n : Int) != (SH.size : Int) + 1) = true := by simp; omega
                  have HR9 := Lib.hid (show R = (Ins.zero, -1) by rw [HR1.out, HRL.out, if_neg hlen])
                  clear HRL
                  obtain ⟨r0, r1, r2, r3, r4⟩ := HK4.out.five
                  have g0 := HK4.out.frozen 0
                  have g1 := HK4.out.frozen 1
                  have g2 := HK4.out.frozen 2
                  have g3 := HK4.out.frozen 3
                  have g4 := HK4.out.frozen 4
                  have HQ := Lib.hid (fun v0 v1 v2 v3 v4 => (set5 HK4.out v0 v1 v2 v3 v4).alloc (.cells #[.int .u8 (k : Int), .int .i64 0, .int .i64 0, .int .i64 0, .int .i64 0] 48))
                  have HQB := Lib.hid (fun v0 v1 v2 v3 v4 => (fun hb => Below.alloc hb hb.size (.cells #[.int .u8 (k : Int), .int .i64 0, .int .i64 0, .int .i64 0, .int .i64 0] 48)) (set5b HB4.out (Nat.le_refl _) v0 v1 v2 v3 v4))
                  go_wp2_with fail
                  refine bodyPost_ret (ins2_result (i := Ins.zero) rfl rfl (HQ.out _ _ _ _ _)) rfl ?_
                  rw [HR9.out]
                  exact ⟨rfl, HQB.out _ _ _ _ _⟩
              · have e2 : (NM.toList == wd.toList) = false := by
                  rw [Lib.toList_data, Lib.toList_data, HNM.out]; exact beq_eq_false_iff_ne.2 heq
                have HNE := Lib.hid heq
                clear heq
                go_wp2_with fail
                go_quiet (fail)
                go_wp2_with fail
                refine ⟨⟨k + 1, nd + nq, by omega, by simp, ?_, ?_⟩, by simp [intOf]; omega⟩
                · intro j hj
                  rcases Nat.lt_or_eq_of_le (Nat.lt_succ_iff.1 hj) with h | h
                  · exact HNO.out j h
                  · rw [h]; exact HNE.out
                · rw [HWR.out, World.drewN_drewN]
            · have hk30 : k = 30 := by omega
              subst hk30
              have hRn : AS.rdLine wd.data.toList (bts ws) = none := by
                rw [AS.rdLine_rrd]
                cases hx : AS.opIx AS.names wd.data.toList with
                | none => rfl
                | some op =>
                  obtain ⟨h1, h2⟩ := opIx_some hx
                  exact absurd h2 (HNO.out op h1)
              have HR9 := Lib.hid (show R = (Ins.zero, -1) by rw [HR1.out, hRn])
              have q1 : ¬ ((30 : Nat) : Int) < 30 := by omega
              clear hRn hNR
              obtain ⟨r0, r1, r2, r3, r4⟩ := HKR.out.five
              have g0 := HKR.out.frozen 0
              have g1 := HKR.out.frozen 1
              have g2 := HKR.out.frozen 2
              have g3 := HKR.out.frozen 3
              have g4 := HKR.out.frozen 4
              have HQ := Lib.hid (fun v0 v1 v2 v3 v4 => set5 HKR.out v0 v1 v2 v3 v4)
              have HQB := Lib.hid (fun v0 v1 v2 v3 v4 => set5b HBR.out (Nat.le_refl _) v0 v1 v2 v3 v4)
              go_wp2_with fail
              refine bodyPost_ret (ins2_result (i := Ins.zero) rfl rfl (HQ.out _ _ _ _ _)) rfl ?_
              rw [HR9.out]
              exact ⟨rfl, HQB.out _ _ _ _ _⟩
  · have hpl : P.length = s.size := by omega
    have HSd := Lib.hid (show s.data.toList = P by have := HC1.out; rw [hpl, List.take_of_length_le (by omega)] at this; exact this.symm)
    have HWD := Lib.hid (fun W => rwords_any s W hs)
    rw [HSd.out] at HWD
    go_enter Tryd.func37, Tryd.ntmps37
    go_wp2_with fail
    go_loopw [0, 4] (fun s0 v wr => ∃ k : Nat, k ≤ s.size ∧ s0 = .string s ∧ v = .int .i64 (k : Int) ∧ wr = w.alloc (.cells (insV Ins.zero) 48)) (fun _ v _ => s.size - (intOf v).toNat)
    case atStart => exact ⟨0, Nat.zero_le _, rfl, rfl, rfl⟩
    case round =>
      obtain ⟨k, hk, rfl, rfl, rfl⟩ := hrel
      by_cases hlt : k < s.size
      · have h1 := HCUT.out k (by omega) hlt
        have e1 : ((s[k].toNat : Int) == 59) = false := beq_eq_false_iff_ne.2 h1
        have q0 : (k : Int) < (s.size : Int) := by omega
        clear h1
        go_wp2_with fail
        exact ⟨⟨k + 1, by omega, by simp, by simp, by simp⟩, by simp [intOf]; omega⟩
      · have q0 : ¬ (k : Int) < (s.size : Int) := by omega
        go_wp2_with fail
        refine (HWD.out _).mono ?_
        rintro e w2 ⟨A, c, L, rfl, hbt, hLl, hrow, hb2⟩
        have HB2 := Lib.hid (HB0.out.trans (hb2.mono HB0.out.size))
        have HK2 := Lib.hid (HK0.out.below hb2)
        clear hb2
        cases L with
        | nil =>
          have HR1 := Lib.hid (show R = (Ins.zero, 0) by rw [HOUT.out, ← hbt]; rfl)
          obtain ⟨r0, r1, r2, r3, r4⟩ := HK2.out.five
          have g0 := HK2.out.frozen 0
          have g1 := HK2.out.frozen 1
          have g2 := HK2.out.frozen 2
          have g3 := HK2.out.frozen 3
          have g4 := HK2.out.frozen 4
          have HQ := Lib.hid (fun v0 v1 v2 v3 v4 => set5 HK2.out v0 v1 v2 v3 v4)
          have HQB := Lib.hid (fun v0 v1 v2 v3 v4 => set5b HB2.out (Nat.le_refl _) v0 v1 v2 v3 v4)
          clear hbt hrow hLl
          go_wp2_with fail
          refine bodyPost_ret (ins2_result (i := Ins.zero) rfl rfl (HQ.out _ _ _ _ _)) rfl ?_
          rw [HR1.out]
          exact ⟨rfl, HQB.out _ _ _ _ _⟩
        | cons wd ws =>
          have HR1 := Lib.hid (show R = match AS.rdLine wd.data.toList (bts ws) with | none => (Ins.zero, -1) | some i => (i, 1) by rw [HOUT.out, ← hbt]; rfl)
          have hRow2 : Row w2 A (strRow (wd :: ws)) := hrow
          obtain ⟨rb, ro, rfl, hrb, c0⟩ := hRow2.str (k := 0) (s := wd) rfl
          have HROW2 := Lib.hid hRow2
          generalize hn : (wd :: ws).length = n at *
          have HN := Lib.hid hn
          have q0 : ((n : Int) == 0) = false := by rw [← hn]; simp; omega
          have hsz : ∀ x ∈ wd :: ws, x.size ≤ 100000 := fun x hx => by
            obtain ⟨_, hf⟩ := flds_le P []
            have h1 : x.data.toList ∈ AS.flds [] P := by rw [← hbt]; unfold AS.bts; exact List.mem_map_of_mem hx
            have h2 := hf _ h1
            have h3 : x.data.toList.length = x.size := Array.length_toList
            simp at h2
            omega
          have HSZ := Lib.hid hsz
          clear hbt hrow hLl hn hRow2 hsz
          go_wp2_with fail
          refine (HNA.out _).mono ?_
          rintro e w3 ⟨rfl, rfl⟩
          have HB3 := Lib.hid (HB2.out.alloc HB2.out.size (.cells namesCells 9))
          have HK3 := Lib.hid (HK2.out.alloc (.cells namesCells 9))
          have HR3 := Lib.hid (HROW2.out.below ((Below.refl w2.heap.size w2).alloc (Nat.le_refl _) (.cells namesCells 9)))
          have HN3 := Lib.hid (fun k (hk : k < 30) => name_cell k hk w2)
          have hgw : w.heap.size ≤ w2.heap.size := HB2.out.size
          generalize w2.alloc (.cells namesCells 9) = w3 at *
          generalize w2.heap.size = gn at *
          clear HB2 HK2 HROW2 c0 hrb
          go_wp2_with fail
          go_loopw [7] (fun v wr => ∃ k nd : Nat, k ≤ 30 ∧ v = .int .i64 (k : Int) ∧ (∀ j, j < k → AS.name j ≠ wd.data.toList) ∧ wr = w3.drewN nd) (fun v _ => 30 - (intOf v).toNat)
          case atStart => exact ⟨0, 0, by omega, rfl, fun j hj => (by omega), rfl⟩
          case round =>
            obtain ⟨k, nd, hk, rfl, hno, hwr⟩ := hrel
            have HNO := Lib.hid hno
            have HBR := Lib.hid (show Below w.heap.size w wr by rw [hwr]; exact below_drewN HB3.out nd)
            have HKR := Lib.hid (show Blk wr w.heap.size 48 (insV Ins.zero) by rw [hwr]; exact HK3.out.drewN nd)
            have HRR := Lib.hid (show Row wr (some ⟨rb, ro, none⟩) (strRow (wd :: ws)) by rw [hwr]; exact row_drewN HR3.out nd)
            have hNR : ∀ j, j < 30 → wr.cell? ⟨gn, j, none⟩ = some (.string ⟨(AS.name j).toArray⟩) := by rw [hwr]; exact HN3.out
            have HWR := Lib.hid hwr
            clear hno hwr
            by_cases hlt : k < 30
            · have c1 := hNR k hlt
              obtain ⟨_, _, e0, hrb, c2⟩ := HRR.out.str (k := 0) (s := wd) rfl
              injection e0 with e0
              injection e0 with e0a e0b e0c
              subst e0a e0b
              have c2 : wr.cell? ⟨rb, ro, none⟩ = some (.string wd) := c2
              have q1 : (k : Int) < 30 := by omega
              have q3 : (0 : Int) < (n : Int) := by rw [← HN.out]; simp
              have HNM : Hid ((⟨(AS.name k).toArray⟩ : ByteArray).data.toList = AS.name k) := Lib.hid rfl
              generalize (⟨(AS.name k).toArray⟩ : ByteArray) = NM at *
              clear hNR
              by_cases heq : AS.name k = wd.data.toList
              · have e2 : (NM.toList == wd.toList) = true := by
                  rw [Lib.toList_data, Lib.toList_data, HNM.out]; exact beq_iff_eq.2 heq
                have hop : AS.opIx AS.names wd.data.toList = some k := by rw [← heq]; exact (AS.name_ok k hlt).2.2.1
                have hrl : AS.rdLine wd.data.toList (bts ws) = if (AS.shape k).length = (bts ws).length then (AS.rrdAll (AS.shape k) (bts ws) { Ins.zero with op := k }).bind fun i => if AS.valid i then some i else none else none := by
                  rw [AS.rdLine_rrd, hop]; rfl
                have HRL := Lib.hid hrl
                have hR1 := HR1.out
                clear HR1
                generalize AS.rdLine wd.data.toList (bts ws) = RL at *
                have HR1 := Lib.hid hR1
                have HSH := Lib.hid (fun W => shape_any k hlt W)
                obtain ⟨SH, hSH⟩ : ∃ SH : ByteArray, SH = ⟨(rshape k).toArray⟩ := ⟨_, rfl⟩
                have hrs : rshape k = (AS.shape k).map rlet := by unfold rshape; rw [if_pos hlt]
                have hSz : SH.size = (AS.shape k).length := by rw [hSH, hrs]; simp [ByteArray.size]
                have hSg : ∀ (j m : Nat), (AS.shape k)[j]? = some m → ∀ h, SH[j]'h = rlet m := by
                  intro j m hm h
                  subst hSH
                  show (rshape k).toArray[j]'_ = _
                  rw [List.getElem_toArray]
                  have : (rshape k)[j]? = some (rlet m) := by rw [hrs, List.getElem?_map, hm]; rfl
                  exact (List.getElem?_eq_some_iff.1 this).2
                rw [← hSH] at HSH
                have HSG := Lib.hid hSg
                have hl3 := AS.shape_len k
                have HSHLE := Lib.hid (AS.shape_le k)
                have hnb : (bts ws).length + 1 = n := by rw [← HN.out]; simp [bts]
                have p1 : (0 : Int) ≤ (k : Int) := by omega
                clear hop hrl hR1 hSg hSH hrs heq
                go_wp2_with fail
                go_quiet (fail)
                go_wp2_with fail
                refine (HSH.out _).mono ?_
                rintro e w4 ⟨rfl, hw4⟩
                have HB4 := Lib.hid (show Below w.heap.size w w4 by rw [← hw4]; exact below_drewN HBR.out _)
                have HK4 := Lib.hid (show Blk w4 w.heap.size 48 (insV Ins.zero) by rw [← hw4]; exact HKR.out.drewN _)
                have HR4 := Lib.hid (show Row w4 (some ⟨rb, ro, none⟩) (strRow (wd :: ws)) by rw [← hw4]; exact row_drewN HRR.out _)
                clear hw4 c1 c2 hrb HBR HKR HRR HWR HNO HSH e2 HNM
                have hlt4 : w.heap.size < w4.heap.size := HK4.out.lt
                have HB5 := Lib.hid (HB4.out.alloc HB4.out.size (.cells #[.int .u8 (k : Int), .int .i64 0, .int .i64 0, .int .i64 0, .int .i64 0] 48))
                have HK5 := Lib.hid (HK4.out.alloc (.cells #[.int .u8 (k : Int), .int .i64 0, .int .i64 0, .int .i64 0, .int .i64 0] 48))
                by_cases hlen : (AS.shape k).length = (bts ws).length
                · have e3 : ((n : Int) != (SH.size : Int) + 1) = false := by simp; omega
                  have HRL2 := Lib.hid (show RL = (AS.rrdAll (AS.shape k) (bts ws) { Ins.zero with op := k }).bind fun i => if AS.valid i then some i else none by rw [HRL.out, if_pos hlen])
                  have HST := Lib.hid (show RxRel w4 (AS.shape k) ws { Ins.zero with op := k } (.int .i64 0) (w4.alloc (.cells (insV { Ins.zero with op := k }) 48)) from ⟨0, _, Nat.zero_le _, rfl, (Below.refl _ _).alloc (Nat.le_refl _) _, Blk.new w4 _ _, rfl, rfl⟩)
                  clear HRL
                  go_wp2_with fail
                  go_loopw [10] (fun v wr => RxRel w4 (AS.shape k) ws { Ins.zero with op := k } v wr) (fun v _ => 3 - (intOf v).toNat)
                  case atStart => exact HST.out
                  case round =>
                    obtain ⟨j, ij, hj, rfl, hbx, hbk, hopj, hrd⟩ := hrel
                    have HBX := Lib.hid hbx
                    have HBK := Lib.hid hbk
                    have HBW := Lib.hid (HB4.out.trans (hbx.mono HB4.out.size))
                    have HKW := Lib.hid (HK4.out.below hbx)
                    obtain ⟨x0, x1, x2, x3, x4⟩ := hbk.five
                    have y0 := hbk.frozen 0
                    have y1 := hbk.frozen 1
                    have y2 := hbk.frozen 2
                    have y3 := hbk.frozen 3
                    have y4 := hbk.frozen 4
                    have HOPJ := Lib.hid hopj
                    clear hopj hbk
                    by_cases hltj : j < (AS.shape k).length
                    · obtain ⟨kk, hkk⟩ : ∃ kk, (AS.shape k)[j]? = some kk := ⟨_, List.getElem?_eq_getElem hltj⟩
                      have hk3 : kk ≤ 3 := HSHLE.out kk (List.mem_of_getElem? hkk)
                      obtain ⟨x, hx⟩ : ∃ x, ws[j]? = some x := ⟨_, List.getElem?_eq_getElem (by simp [bts] at hlen; omega)⟩
                      have hL := HSG.out j kk hkk
                      obtain ⟨_, _, e0, hrb, cx⟩ := (HR4.out.below hbx).str (k := j + 1) (s := x) (by simpa using hx)
                      injection e0 with e0
                      injection e0 with e0a e0b e0c
                      subst e0a e0b
                      have hxs := HSZ.out x (List.mem_cons_of_mem _ (List.mem_of_getElem? hx))
                      have HRG := Lib.hid (fun W => rregister_any x W hxs)
                      have HNU := Lib.hid (fun W => rnumber_any x W hxs)
                      rw [rrd_at hkk hx] at hrd
                      have q4 : (j : Int) < (SH.size : Int) := by omega
                      have q5 : (j : Int) + 1 < (n : Int) := by omega
                      clear hbx hx hkk hxs
                      have hcase : kk = 0 ∨ kk = 1 ∨ kk = 2 ∨ kk = 3 := by omega
                      rcases hcase with rfl | rfl | rfl | rfl
                      · rw [show rlet 0 = 97 from rfl] at hL
                        rw [show AS.rrd 0 x.data.toList = AS.rreg x.data.toList from rfl] at hrd
                        generalize AS.rreg x.data.toList = O at *
                        have HRD := Lib.hid hrd
                        clear hrd
                        go_wp2_with fail
                        refine (HRG.out _).mono ?_
                        rintro e w5 ⟨v5, rfl, hv5, rfl⟩
                        cases O with
                        | none =>
                          have HR9 := Lib.hid (show R = (Ins.zero, -1) by rw [HR1.out, HRL2.out, ← HRD.out]; rfl)
                          obtain ⟨r0, r1, r2, r3, r4⟩ := HKW.out.five
                          have g0 := HKW.out.frozen 0
                          have g1 := HKW.out.frozen 1
                          have g2 := HKW.out.frozen 2
                          have g3 := HKW.out.frozen 3
                          have g4 := HKW.out.frozen 4
                          have HQ := Lib.hid (fun v0 v1 v2 v3 v4 => set5 HKW.out v0 v1 v2 v3 v4)
                          have HQB := Lib.hid (fun v0 v1 v2 v3 v4 => set5b HBW.out (Nat.le_refl _) v0 v1 v2 v3 v4)
                          clear HRD
                          go_wp2_with fail
                          refine bodyPost_ret (ins2_result (i := Ins.zero) rfl rfl (HQ.out _ _ _ _ _)) rfl ?_
                          rw [HR9.out]
                          exact ⟨rfl, HQB.out _ _ _ _ _⟩
                        | some v =>
                          have hvv := hv5 v rfl
                          subst hvv
                          have HST5 := Lib.hid (rx_step hltj HBX.out HBK.out hk3 HOPJ.out HRD.out)
                          clear HRD
                          go_wp2_with fail
                          refine ⟨?_, by simp [intOf]; omega⟩
                          have h5 := HST5.out
                          simp
                          refine ⟨_, _, by simpa using h5, rfl, rfl, ?_⟩
                          omega
                      · rw [show rlet 1 = 98 from rfl] at hL
                        rw [show AS.rrd 1 x.data.toList = AS.rreg x.data.toList from rfl] at hrd
                        generalize AS.rreg x.data.toList = O at *
                        have HRD := Lib.hid hrd
                        clear hrd
                        go_wp2_with fail
                        refine (HRG.out _).mono ?_
                        rintro e w5 ⟨v5, rfl, hv5, rfl⟩
                        cases O with
                        | none =>
                          have HR9 := Lib.hid (show R = (Ins.zero, -1) by rw [HR1.out, HRL2.out, ← HRD.out]; rfl)
                          obtain ⟨r0, r1, r2, r3, r4⟩ := HKW.out.five
                          have g0 := HKW.out.frozen 0
                          have g1 := HKW.out.frozen 1
                          have g2 := HKW.out.frozen 2
                          have g3 := HKW.out.frozen 3
                          have g4 := HKW.out.frozen 4
                          have HQ := Lib.hid (fun v0 v1 v2 v3 v4 => set5 HKW.out v0 v1 v2 v3 v4)
                          have HQB := Lib.hid (fun v0 v1 v2 v3 v4 => set5b HBW.out (Nat.le_refl _) v0 v1 v2 v3 v4)
                          clear HRD
                          go_wp2_with fail
                          refine bodyPost_ret (ins2_result (i := Ins.zero) rfl rfl (HQ.out _ _ _ _ _)) rfl ?_
                          rw [HR9.out]
                          exact ⟨rfl, HQB.out _ _ _ _ _⟩
                        | some v =>
                          have hvv := hv5 v rfl
                          subst hvv
                          have HST5 := Lib.hid (rx_step hltj HBX.out HBK.out hk3 HOPJ.out HRD.out)
                          clear HRD
                          go_wp2_with fail
                          refine ⟨?_, by simp [intOf]; omega⟩
                          have h5 := HST5.out
                          simp
                          refine ⟨_, _, by simpa using h5, rfl, rfl, ?_⟩
                          omega
                      · rw [show rlet 2 = 99 from rfl] at hL
                        rw [show AS.rrd 2 x.data.toList = AS.rreg x.data.toList from rfl] at hrd
                        generalize AS.rreg x.data.toList = O at *
                        have HRD := Lib.hid hrd
                        clear hrd
                        go_wp2_with fail
                        refine (HRG.out _).mono ?_
                        rintro e w5 ⟨v5, rfl, hv5, rfl⟩
                        cases O with
                        | none =>
                          have HR9 := Lib.hid (show R = (Ins.zero, -1) by rw [HR1.out, HRL2.out, ← HRD.out]; rfl)
                          obtain ⟨r0, r1, r2, r3, r4⟩ := HKW.out.five
                          have g0 := HKW.out.frozen 0
                          have g1 := HKW.out.frozen 1
                          have g2 := HKW.out.frozen 2
                          have g3 := HKW.out.frozen 3
                          have g4 := HKW.out.frozen 4
                          have HQ := Lib.hid (fun v0 v1 v2 v3 v4 => set5 HKW.out v0 v1 v2 v3 v4)
                          have HQB := Lib.hid (fun v0 v1 v2 v3 v4 => set5b HBW.out (Nat.le_refl _) v0 v1 v2 v3 v4)
                          clear HRD
                          go_wp2_with fail
                          refine bodyPost_ret (ins2_result (i := Ins.zero) rfl rfl (HQ.out _ _ _ _ _)) rfl ?_
                          rw [HR9.out]
                          exact ⟨rfl, HQB.out _ _ _ _ _⟩
                        | some v =>
                          have hvv := hv5 v rfl
                          subst hvv
                          have HST5 := Lib.hid (rx_step hltj HBX.out HBK.out hk3 HOPJ.out HRD.out)
                          clear HRD
                          go_wp2_with fail
                          refine ⟨?_, by simp [intOf]; omega⟩
                          have h5 := HST5.out
                          simp
                          refine ⟨_, _, by simpa using h5, rfl, rfl, ?_⟩
                          omega
                      · rw [show rlet 3 = 105 from rfl] at hL
                        rw [show AS.rrd 3 x.data.toList = AS.rnum x.data.toList from rfl] at hrd
                        generalize AS.rnum x.data.toList = O at *
                        have HRD := Lib.hid hrd
                        clear hrd
                        go_wp2_with fail
                        refine (HRG.out _).mono ?_
                        rintro e w5 ⟨v5, rfl, hv5, rfl⟩
                        go_wp2_with fail
                        refine (HNU.out _).mono ?_
                        rintro e w6 ⟨v6, rfl, hv6, rfl⟩
                        cases O with
                        | none =>
                          have HR9 := Lib.hid (show R = (Ins.zero, -1) by rw [HR1.out, HRL2.out, ← HRD.out]; rfl)
                          obtain ⟨r0, r1, r2, r3, r4⟩ := HKW.out.five
                          have g0 := HKW.out.frozen 0
                          have g1 := HKW.out.frozen 1
                          have g2 := HKW.out.frozen 2
                          have g3 := HKW.out.frozen 3
                          have g4 := HKW.out.frozen 4
                          have HQ := Lib.hid (fun v0 v1 v2 v3 v4 => set5 HKW.out v0 v1 v2 v3 v4)
                          have HQB := Lib.hid (fun v0 v1 v2 v3 v4 => set5b HBW.out (Nat.le_refl _) v0 v1 v2 v3 v4)
                          clear HRD
                          go_wp2_with fail
                          refine bodyPost_ret (ins2_result (i := Ins.zero) rfl rfl (HQ.out _ _ _ _ _)) rfl ?_
                          rw [HR9.out]
                          exact ⟨rfl, HQB.out _ _ _ _ _⟩
                        | some v =>
                          have hvv := hv6 v rfl
                          subst hvv
                          have HST5 := Lib.hid (rx_step hltj HBX.out HBK.out hk3 HOPJ.out HRD.out)
                          clear HRD
                          go_wp2_with fail
                          refine ⟨?_, by simp [intOf]; omega⟩
                          have h5 := HST5.out
                          simp
                          refine ⟨_, _, by simpa using h5, rfl, rfl, ?_⟩
                          omega
                    · have hjk : j = (AS.shape k).length := by omega
                      have hlw : ws.length = (AS.shape k).length := by simp [bts] at hlen; omega
                      rw [show (AS.shape k).drop j = [] from by rw [hjk]; exact List.drop_length, show bts (ws.drop j) = [] from by rw [hjk, ← hlw, List.drop_length]; rfl, AS.rrdAll] at hrd
                      have hRv : RL = if AS.valid ij then some ij else none := by rw [HRL2.out, ← hrd]; rfl
                      have q4 : ¬ (j : Int) < (SH.size : Int) := by omega
                      have hop30 : ij.op < 30 := by rw [HOPJ.out]; exact hlt
                      have HVA := Lib.hid (fun W => (show Calls Tryd.prog 58 #[.agg #[.int .u8 (ij.op : Int), .int .i64 ij.a, .int .i64 ij.b, .int .i64 ij.c, .int .i64 ij.imm]] W _ from valid4_any ij hop30 W))
                      have HRV := Lib.hid hRv
                      clear hRv hrd hjk hlw hbx
                      go_wp2_with fail
                      refine (HVA.out _).mono ?_
                      rintro e w6 ⟨rfl, hb6⟩
                      have HB6 := Lib.hid (HBW.out.trans (hb6.mono HBW.out.size))
                      have HK6 := Lib.hid (HKW.out.below hb6)
                      obtain ⟨z0, z1, z2, z3, z4⟩ := (HBK.out.below hb6).five
                      clear x0 x1 x2 x3 x4 y0 y1 y2 y3 y4 hb6
                      obtain ⟨r0, r1, r2, r3, r4⟩ := HK6.out.five
                      have g0 := HK6.out.frozen 0
                      have g1 := HK6.out.frozen 1
                      have g2 := HK6.out.frozen 2
                      have g3 := HK6.out.frozen 3
                      have g4 := HK6.out.frozen 4
                      have HQ := Lib.hid (fun v0 v1 v2 v3 v4 => set5 HK6.out v0 v1 v2 v3 v4)
                      have HQB := Lib.hid (fun v0 v1 v2 v3 v4 => set5b HB6.out (Nat.le_refl _) v0 v1 v2 v3 v4)
                      cases hv : AS.valid ij with
                      | false =>
                        have HR9 := Lib.hid (show R = (Ins.zero, -1) by rw [HR1.out, HRV.out, hv]; rfl)
                        clear hv
                        go_wp2_with fail
                        refine bodyPost_ret (ins2_result (i := Ins.zero) rfl rfl (HQ.out _ _ _ _ _)) rfl ?_
                        rw [HR9.out]
                        exact ⟨rfl, HQB.out _ _ _ _ _⟩
                      | true =>
                        have HR9 := Lib.hid (show R = (ij, 1) by rw [HR1.out, HRV.out, hv]; rfl)
                        clear hv
                        go_wp2_with fail
                        refine bodyPost_ret (ins2_result (i := ij) rfl rfl (HQ.out _ _ _ _ _)) rfl ?_
                        rw [HR9.out]
                        exact ⟨rfl, HQB.out _ _ _ _ _⟩
                · have e3 : ((n : Int) != (SH.size : Int) + 1) = true := by simp; omega
                  have HR9 := Lib.hid (show R = (Ins.zero, -1) by rw [HR1.out, HRL.out, if_neg hlen])
                  clear HRL
                  obtain ⟨r0, r1, r2, r3, r4⟩ := HK4.out.five
                  have g0 := HK4.out.frozen 0
                  have g1 := HK4.out.frozen 1
                  have g2 := HK4.out.frozen 2
                  have g3 := HK4.out.frozen 3
                  have g4 := HK4.out.frozen 4
                  have HQ := Lib.hid (fun v0 v1 v2 v3 v4 => (set5 HK4.out v0 v1 v2 v3 v4).alloc (.cells #[.int .u8 (k : Int), .int .i64 0, .int .i64 0, .int .i64 0, .int .i64 0] 48))
                  have HQB := Lib.hid (fun v0 v1 v2 v3 v4 => (fun hb => Below.alloc hb hb.size (.cells #[.int .u8 (k : Int), .int .i64 0, .int .i64 0, .int .i64 0, .int .i64 0] 48)) (set5b HB4.out (Nat.le_refl _) v0 v1 v2 v3 v4))
                  go_wp2_with fail
                  refine bodyPost_ret (ins2_result (i := Ins.zero) rfl rfl (HQ.out _ _ _ _ _)) rfl ?_
                  rw [HR9.out]
                  exact ⟨rfl, HQB.out _ _ _ _ _⟩
              · have e2 : (NM.toList == wd.toList) = false := by
                  rw [Lib.toList_data, Lib.toList_data, HNM.out]; exact beq_eq_false_iff_ne.2 heq
                have HNE := Lib.hid heq
                clear heq
                go_wp2_with fail
                go_quiet (fail)
                go_wp2_with fail
                refine ⟨⟨k + 1, nd + nq, by omega, by simp, ?_, ?_⟩, by simp [intOf]; omega⟩
                · intro j hj
                  rcases Nat.lt_or_eq_of_le (Nat.lt_succ_iff.1 hj) with h | h
                  · exact HNO.out j h
                  · rw [h]; exact HNE.out
                · rw [HWR.out, World.drewN_drewN]
            · have hk30 : k = 30 := by omega
              subst hk30
              have hRn : AS.rdLine wd.data.toList (bts ws) = none := by
                rw [AS.rdLine_rrd]
                cases hx : AS.opIx AS.names wd.data.toList with
                | none => rfl
                | some op =>
                  obtain ⟨h1, h2⟩ := opIx_some hx
                  exact absurd h2 (HNO.out op h1)
              have HR9 := Lib.hid (show R = (Ins.zero, -1) by rw [HR1.out, hRn])
              have q1 : ¬ ((30 : Nat) : Int) < 30 := by omega
              clear hRn hNR
              obtain ⟨r0, r1, r2, r3, r4⟩ := HKR.out.five
              have g0 := HKR.out.frozen 0
              have g1 := HKR.out.frozen 1
              have g2 := HKR.out.frozen 2
              have g3 := HKR.out.frozen 3
              have g4 := HKR.out.frozen 4
              have HQ := Lib.hid (fun v0 v1 v2 v3 v4 => set5 HKR.out v0 v1 v2 v3 v4)
              have HQB := Lib.hid (fun v0 v1 v2 v3 v4 => set5b HBR.out (Nat.le_refl _) v0 v1 v2 v3 v4)
              go_wp2_with fail
              refine bodyPost_ret (ins2_result (i := Ins.zero) rfl rfl (HQ.out _ _ _ _ _)) rfl ?_
              rw [HR9.out]
              exact ⟨rfl, HQB.out _ _ _ _ _⟩
end
end Go.Proofs.YtgeagpplihecmaaDoor
