/- ParserLayout: other spaces, line feeds and comments between the tokens do not change the result. -/
import Derived.Test.YtaaaicpjlaeiiaaDoorSame2
import Derived.Test.YtaaaicpjlaeiiaaDoorLawLevels
import Derived.Test.YtaaaicpjlaeiiaaDoorPlainLay2
import Derived.Test.YtaaaicpjlaeiiaaDoorPlainValid
import Derived.BigRegion
namespace Go.Proofs.YtaaaicpjlaeiiaaDoor
open Go.RowKit Go.Maps
open PP (Tree ArrD TaskD ProgD)
theorem lay_snoc (f : Nat → Nat) (t : PL.Tok) : ∀ (T : List PL.Tok) (i : Nat), PL.layText f i (T ++ [t]) = PL.layText f i T ++ (t.text ++ PL.fill (f (i + T.length)))
  | [], i => by simp [PL.layText]
  | u :: T, i => by
    rw [List.cons_append, PL.layText, lay_snoc f t T (i + 1), PL.layText, show i + (u :: T).length = i + 1 + T.length from by simp; omega]
    simp
theorem fill_len (k : Nat) : (PL.fill k).length ≤ 9 := by
  match k with
  | 0 => decide
  | 1 => decide
  | 2 => decide
  | 3 => decide
  | 4 => decide
  | k + 5 => show (PL.fills.getD (k + 5) []).length ≤ 9; simp [PL.fills]
theorem lay_len (f : Nat → Nat) : ∀ (T : List PL.Tok) (i : Nat), (PL.layText f i T).length ≤ (T.flatMap PL.Tok.text).length + 9 * T.length
  | [], i => by simp [PL.layText]
  | u :: T, i => by
    have h1 := lay_len f T (i + 1)
    have h2 := fill_len (f i)
    simp only [PL.layText, List.length_append, List.flatMap_cons, List.length_cons]; omega
theorem filter_text_le (p : PL.Tok → Bool) : ∀ (T : List PL.Tok), ((T.filter p).flatMap PL.Tok.text).length ≤ (T.flatMap PL.Tok.text).length
  | [] => by simp
  | u :: T => by
    have := filter_text_le p T
    by_cases h : p u = true
    · rw [List.filter_cons_of_pos h]; simp only [List.flatMap_cons, List.length_append]; omega
    · rw [List.filter_cons_of_neg h]; simp only [List.flatMap_cons, List.length_append]; omega
theorem take_text_le (T : List PL.Tok) (j : Nat) : ((T.take j).flatMap PL.Tok.text).length ≤ (T.flatMap PL.Tok.text).length := PL.flatMap_take_le T j
def layB (f : Nat → Nat) (T : List PL.Tok) (j : Nat) : ByteArray := ⟨(PL.layText f 0 (T.take j)).toArray⟩
theorem layB_next (f : Nat → Nat) (T : List PL.Tok) {j : Nat} {x : PL.Tok} (hx : T[j]? = some x) : layB f T (j + 1) = layB f T j ++ (⟨x.text.toArray⟩ ++ ⟨(PL.fill (f j)).toArray⟩) := by
  have hj : j < T.length := (List.getElem?_eq_some_iff.1 hx).1
  have e : T.take (j + 1) = T.take j ++ [x] := by rw [List.take_add_one, hx]; rfl
  apply ByteArray.ext
  rw [ByteArray.data_append, ByteArray.data_append]
  unfold layB
  rw [e, lay_snoc, List.length_take, Nat.min_eq_left (Nat.le_of_lt hj), Nat.zero_add]
  simp
theorem tmod5 (v : Nat) : (v : Int).tmod 5 = ((v % 5 : Nat) : Int) := by rw [Int.tmod_eq_emod_of_nonneg (Int.natCast_nonneg v)]; rfl
def LayRel (f : Nat → Nat) (T : List PL.Tok) (m : Nat) (w : World) (t i : Value) (wr : World) : Prop := ∃ j : Nat, j ≤ m ∧ i = .int .i64 (j : Int) ∧ t = .string (layB f T j) ∧ Below w.heap.size w wr
section
set_option maxHeartbeats 4000000
set_option maxRecDepth 100000
theorem layout_walk (s : ByteArray) (A : Option Addr) (n c : Nat) (bs : List Nat) (w : World) (hg : SignsIs w) (hO : OpsIs w) (hs : s.size ≤ maxLen) (hn : bs.length = n) (hnm : n ≤ maxLen) (hB : ∀ v ∈ bs, v ≤ 255) (hR : Row w A (bs.map fun (k : Nat) => Value.int .u8 (k : Int))) :
    Calls Tryd.prog 10 #[.string s, .slice A n c] w fun e w' => e = .returned (.bool true) ∧ Below w.heap.size w w' := by
  have HG := Lib.hid hg
  have HO := Lib.hid hO
  have HA := Lib.hid (awake13_any w hg hO)
  have HSM := Lib.hid hs
  have HN := Lib.hid hn
  have HBY := Lib.hid hR
  have HB255 := Lib.hid hB
  have hnot : ∀ (x : Bool) (w : World), (Op.unary .not (.bool x)).run Tryd.prog w = .ok (.bool (!x)) w := fun _ _ => rfl
  clear hg hO hs hn hR hB
  by_cases hl : 500 < s.size
  · have e1 : decide ((500 : Int) < (s.size : Int)) = true := by simp; omega
    have e2 : decide (500 < s.size) = true := by simp; omega
    go_enter Tryd.func10, Tryd.ntmps10
    go_wp2_with fail
    refine HA.out.mono ?_
    rintro e w1 ⟨rfl, hb1⟩
    go_wp2_with fail
    go_ret
    exact ⟨rfl, hb1⟩
  have e1 : decide ((500 : Int) < (s.size : Int)) = false := by simp; omega
  have e2 : decide (500 < s.size) = false := by simp; omega
  have hsl : s.size ≤ 500 := by omega
  clear hl
  by_cases hn0 : n = 0
  · subst hn0
    go_enter Tryd.func10, Tryd.ntmps10
    go_wp2_with fail
    refine HA.out.mono ?_
    rintro e w1 ⟨rfl, hb1⟩
    go_wp2_with fail
    go_ret
    exact ⟨rfl, hb1⟩
  have e3 : ((n : Int) == 0) = false := by simp; omega
  have e4 : (n == 0) = false := by simp; omega
  by_cases hn40 : 40 < n
  · have e5 : decide ((40 : Int) < (n : Int)) = true := by simp; omega
    have e6 : decide (40 < n) = true := by simp; omega
    go_enter Tryd.func10, Tryd.ntmps10
    go_wp2_with fail
    refine HA.out.mono ?_
    rintro e w1 ⟨rfl, hb1⟩
    go_wp2_with fail
    go_ret
    exact ⟨rfl, hb1⟩
  have e5 : decide ((40 : Int) < (n : Int)) = false := by simp; omega
  have e6 : decide (40 < n) = false := by simp; omega
  have hnl : n ≤ 40 := by omega
  have hnp : 0 < n := by omega
  clear hn40 hn0
  obtain ⟨ts, at_, er, hL⟩ : ∃ ts a e, PL.lex s.data.toList = (ts, a, e) := ⟨_, _, _, rfl⟩
  have HL := Lib.hid hL
  clear hL
  go_enter Tryd.func10, Tryd.ntmps10
  go_wp2_with fail
  refine HA.out.mono ?_
  rintro e w1 ⟨rfl, hb1⟩
  have HB1 := Lib.hid hb1
  have hx := lex_any s w1 (HG.out.below hb1 HG.out.pos) HSM.out
  unfold LexEnd at hx
  rw [HL.out] at hx
  simp only [] at hx
  have HX := Lib.hid hx
  clear hb1 HA hx
  go_wp2_with fail
  refine HX.out.mono ?_
  rintro e w2 ⟨v1, rfl, hown1, hb2⟩
  have HB2 := Lib.hid (HB1.out.trans (hb2.mono HB1.out.size))
  obtain ⟨A1, c1, rfl, hR1⟩ := own_rt hown1
  have HR1 := Lib.hid hR1
  clear hb2 HX HB1 hown1 hR1
  by_cases her : er ≠ 0
  · have e7 : ((er : Int) != 0) = true := by simpa using her
    go_wp2_with fail
    go_ret
    exact ⟨rfl, HB2.out⟩
  have her0 : er = 0 := by omega
  clear her
  subst her0
  have hat : at_ = 0 := (PL.lex_ok HL.out rfl).2.2
  subst hat
  have hcnt : ts.length ≤ 500 := by
    have := PL.lex_count HL.out
    rw [show s.data.toList.length = s.size from Array.length_toList] at this; omega
  have htxt : ((ts.filter PL.solidT).flatMap PL.Tok.text).length ≤ 500 := by
    have h1 := filter_text_le PL.solidT ts
    rw [(PL.joins HL.out).2.1, show s.data.toList.length = s.size from Array.length_toList] at h1
    omega
  have hflt : (ts.filter PL.solidT).length ≤ ts.length := List.length_filter_le _ _
  have HS := Lib.hid (solid_toks A1 ts.length c1 ts w2 rfl HR1.out (by omega))
  obtain ⟨f, hf⟩ : ∃ f : Nat → Nat, f = fun j => (bs.getD (j % n) 0) % 5 := ⟨_, rfl⟩
  have hf5 : ∀ j, f j < 5 := fun j => by rw [hf]; exact Nat.mod_lt _ (by omega)
  have hlen : ∀ j, (layB f (ts.filter PL.solidT) j).size ≤ 5000 := fun j => by
    have h1 := lay_len f ((ts.filter PL.solidT).take j) 0
    have h2 := take_text_le (ts.filter PL.solidT) j
    have h3 : ((ts.filter PL.solidT).take j).length ≤ (ts.filter PL.solidT).length := by rw [List.length_take]; omega
    show ((PL.layText f 0 ((ts.filter PL.solidT).take j)).toArray).size ≤ 5000
    rw [List.size_toArray]; omega
  have HF := Lib.hid hf
  have HF5 := Lib.hid hf5
  have HLEN := Lib.hid hlen
  generalize hT : ts.filter PL.solidT = T at *
  have HT := Lib.hid hT
  generalize hm : T.length = m at *
  have HM := Lib.hid hm
  generalize hnn : ts.length = nn at *
  clear hf hf5 hlen hT hm hnn htxt
  go_wp2_with fail
  refine HS.out.mono ?_
  rintro e w5 ⟨A5, c5, rfl, hR5, hb5⟩
  have HB5 := Lib.hid (HB2.out.trans (hb5.mono HB2.out.size))
  have HR5 := Lib.hid hR5
  have HBY5 := Lib.hid (HBY.out.below HB5.out)
  clear hb5 hR5 HS HB2 HR1
  go_wp2_with fail
  go_loopw [8, 10] (fun t i wr => LayRel f T m w5 t i wr) (fun _ i _ => m - (intOf i).toNat)
  case atStart => exact ⟨0, Nat.zero_le _, rfl, rfl, Below.refl _ _⟩
  case round =>
    obtain ⟨j, hj, rfl, rfl, hbr⟩ := hrel
    have hS := HLEN.out j
    have HBR := Lib.hid hbr
    by_cases hlt : j < m
    · obtain ⟨x, hx⟩ : ∃ x, T[j]? = some x := ⟨_, List.getElem?_eq_getElem (by rw [HM.out]; exact hlt)⟩
      have hS2 := HLEN.out (j + 1)
      have hnext := layB_next f T hx
      obtain ⟨g, o, rfl, hgl, hc⟩ := HR5.out (by intro h; rw [List.map_eq_nil_iff] at h; rw [h] at hx; simp at hx)
      obtain ⟨_, x1, _⟩ := hc j (rtOf x) (by rw [List.getElem?_map, hx]; rfl)
      have hkm : j % n < n := Nat.mod_lt _ hnp
      have hmod : (j : Int) % (n : Int) = ((j % n : Nat) : Int) := by simp
      obtain ⟨v, hv⟩ : ∃ v, bs[j % n]? = some v := ⟨_, List.getElem?_eq_getElem (by rw [HN.out]; exact hkm)⟩
      have hv5 : v ≤ 255 := HB255.out v (List.mem_of_getElem? hv)
      have hfj : f j = v % 5 := by rw [HF.out]; simp [hv]
      obtain ⟨b, ob, rfl, hbl, hbc⟩ := HBY5.out (by intro h; rw [List.map_eq_nil_iff] at h; rw [h] at hv; simp at hv)
      have z0 := (hbr.cell (p := ⟨b, ob + j % n, none⟩) hbl).trans (hbc (j % n) _ (by rw [List.getElem?_map, hv]; rfl))
      simp only [rtOf] at x1
      have x2 := (hbr.cell (p := ⟨g, o + j * 3 + 1, none⟩) hgl).trans x1
      rw [hfj] at hnext
      rw [hnext] at hS2
      generalize layB f T j = S at *
      generalize x.text = xt at *
      generalize j % n = jn at *
      have hxs : (⟨xt.toArray⟩ : ByteArray).size ≤ 5000 := by
        rw [ByteArray.size_append, ByteArray.size_append] at hS2; omega
      have HNEXT := Lib.hid hnext
      have p1 : (0 : Int) ≤ (j : Int) := by omega
      have p2 : (j : Int) < (m : Int) := by omega
      have p3 : (0 : Int) ≤ (jn : Int) := by omega
      have p4 : (jn : Int) < (n : Int) := by omega
      have hgw := Nat.lt_of_lt_of_le hgl hbr.size
      have hbw := Nat.lt_of_lt_of_le hbl hbr.size
      have hwz := hbr.size
      have e7 : ((n : Int) = 0) = False := by simp; omega
      have e8 : (n = 0) = False := by simp; omega
      clear hc hbc hx x1 hv hnext hS2 hfj hgl hbl hbr
      generalize (⟨xt.toArray⟩ : ByteArray) = X at *
      rcases (show v % 5 = 0 ∨ v % 5 = 1 ∨ v % 5 = 2 ∨ v % 5 = 3 ∨ v % 5 = 4 from by omega) with h5 | h5 | h5 | h5 | h5
      all_goals
        rw [h5] at HNEXT
        have h7 := tmod5 v
        rw [h5] at h7
        first | have h6 : (v : Int) % 5 = 0 := by omega | have h6 : (v : Int) % 5 = 1 := by omega | have h6 : (v : Int) % 5 = 2 := by omega | have h6 : (v : Int) % 5 = 3 := by omega | have h6 : (v : Int) % 5 = 4 := by omega
        go_wp2_with fail
        go_region
        all_goals
          go_wp2_with fail
          go_roundw
          case rel => exact ⟨j + 1, by omega, by go_num, by rw [HNEXT.out]; rfl, HBR.out.drew.alloc (by simp; exact hwz) _⟩
          case measure => simp [intOf]; omega
    · obtain rfl : j = m := by omega
      have htk : T.take j = T := by rw [← HM.out, List.take_length]
      have htx : (layB f T j).data.toList = PL.layText f 0 T := by unfold layB; rw [htk]
      have HBX := Lib.hid (HB5.out.trans (hbr.mono HB5.out.size))
      have HP := Lib.hid (program_any s wr HSM.out (HG.out.below HBX.out HG.out.pos) (HO.out.below HBX.out))
      generalize layB f T j = S at *
      have HTX := Lib.hid htx
      clear htx htk hbr HBR HR5 HBY5 HBY HB5
      go_wp2_with fail
      refine HP.out.mono ?_
      rintro e w6 ⟨va, vt, n6, q, ba, els, bt, bx, kx, hq, rfl, hv, hb6⟩
      obtain ⟨Av, cv, At, ct, rfl, rfl, hpr⟩ := hv.read
      have hq' : PP.programP (PP.envL s.data.toList) n6 (PP.sigT s.data.toList) = some q := by rw [← envOf_eq, ← sigOf_eq]; exact hq
      obtain ⟨r, hr, herr, hqr⟩ := PP.layout_law HL.out HF5.out (by rw [HT.out, ← HTX.out]; rw [show S.data.toList.length = S.size from Array.length_toList]; omega) hq'
      rw [HT.out, ← HTX.out] at hr
      have hout : (PP.out zeroP r).1 = (PP.out zeroP q).1 ∧ (PP.out zeroP r).2.2 = (PP.out zeroP q).2.2 := by
        have he := herr.err
        unfold PP.out
        by_cases h0 : q.1.err = 0
        · rw [if_pos h0, if_pos (by omega)]; exact ⟨hqr.symm, rfl⟩
        · rw [if_neg h0, if_neg (by omega)]; exact ⟨rfl, he.symm⟩
      have hsz : ∀ t ∈ (PP.out zeroP q).1.tasks, t.body.size ≤ 1000000 := by
        intro t ht
        unfold PP.out at ht
        by_cases h0 : q.1.err = 0
        · rw [if_pos h0] at ht
          have := PP.body_small (PP.program_valid _ hq' h0) ht
          omega
        · rw [if_neg h0] at ht; simp [zeroP] at ht
      have HB6 := Lib.hid (HBX.out.trans (hb6.mono HBX.out.size))
      have HB7 := Lib.hid (HB6.out.alloc HB6.out.size (.cells #[.slice Av (PP.out zeroP q).1.shared.length cv, .slice At (PP.out zeroP q).1.tasks.length ct] 39))
      have hP2 := program_at S _ (by unfold maxLen; omega) (HG.out.below HB7.out HG.out.pos) (HO.out.below HB7.out) (q := r) (by rw [envOf_eq, sigOf_eq]; exact hr)
      rw [hout.1, hout.2] at hP2
      have HP2 := Lib.hid hP2
      have HSZ := Lib.hid hsz
      have HPR := Lib.hid hpr
      clear hP2 hsz hpr hout hr herr hqr hq hq' hv hb6 HP HL
      generalize (PP.out zeroP q).1 = P at *
      generalize (PP.out zeroP q).2.1 = o1 at *
      generalize (PP.out zeroP q).2.2 = o2 at *
      generalize (PP.out zeroP r).2.1 = o3 at *
      generalize hna : P.shared.length = na at *
      generalize hnt : P.tasks.length = nt at *
      have HNA := Lib.hid hna
      have HNT := Lib.hid hnt
      clear hna hnt
      go_wp2_with fail
      refine HP2.out.mono ?_
      rintro e w8 ⟨va8, vt8, ba8, els8, bt8, bx8, kx8, rfl, hv8, hb8⟩
      obtain ⟨Av8, cv8, At8, ct8, rfl, rfl, hpr8⟩ := hv8.read
      rw [HNA.out, HNT.out]
      have k8 : Blk w8 w6.heap.size 39 #[.slice Av na cv, .slice At nt ct] := (hb8.block _ (by simp)).trans (Blk.new _ _ _)
      have HB8 := Lib.hid (HB7.out.trans (hb8.mono HB7.out.size))
      have HB9 := Lib.hid (HB8.out.alloc HB8.out.size (.cells #[.slice Av8 na cv8, .slice At8 nt ct8] 39))
      have hb9 : Below w8.heap.size w8 (w8.alloc (.cells #[.slice Av8 na cv8, .slice At8 nt ct8] 39)) := (Below.refl _ _).alloc (Nat.le_refl _) _
      have hb68 : Below w6.heap.size w6 w8 := ((Below.refl w6.heap.size w6).alloc (Nat.le_refl _) _).trans (hb8.mono (by simp))
      have HSA := Lib.hid (same_any (c := cv) (d := ct) (c' := cv8) (d' := ct8) HNA.out HNT.out ((HPR.out.below hb68).below hb9) (hpr8.below hb9) HSZ.out)
      have hl8 := k8.lt
      have y0 : w8.cell? ⟨w6.heap.size, 0, none⟩ = some (.slice Av na cv) := k8.cell 0
      have y1 : w8.cell? ⟨w6.heap.size, 1, none⟩ = some (.slice At nt ct) := k8.cell 1
      clear k8 hb8 hb9 hb68 hv8 hpr8 HP2
      go_wp2_with fail
      refine HSA.out.mono ?_
      rintro e w9 ⟨rfl, hb9⟩
      have HB10 := Lib.hid (HB9.out.trans (hb9.mono HB9.out.size))
      clear hb9 y0 y1
      go_wp2_with fail
      go_ret
      exact ⟨rfl, HB10.out⟩
end
end Go.Proofs.YtaaaicpjlaeiiaaDoor
