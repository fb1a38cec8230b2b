/- The walk of AsmText. -/
import Derived.Test.YtgeagpplihecmaaDoorAsM
import Derived.Test.YtgeagpplihecmaaDoorPlainAsm4
namespace Go.Proofs.YtgeagpplihecmaaDoor
open Go.RowKit
open AS (Ins)
theorem fmt_if {l : List Ins} (hl : l.length ≤ 4096) : AS.fmt l = if l.all AS.valid then (AS.fmtL l, 0) else ([], 3) := by
  unfold AS.fmt
  rw [if_neg (by omega)]
theorem Row.u8 {w : World} {A : Option Addr} {ws : List Nat} (h : Row w A (ws.map fun (k : Nat) => Value.int .u8 (k : Int))) {k x : Nat} (hk : ws[k]? = some x) : ∃ b o, A = some ⟨b, o, none⟩ ∧ b < w.heap.size ∧ w.cell? ⟨b, o + k, none⟩ = some (.int .u8 (x : Int)) := by
  have hx : (ws.map fun (k : Nat) => Value.int .u8 (k : Int))[k]? = some (.int .u8 (x : Int)) := by rw [List.getElem?_map, hk]; rfl
  obtain ⟨b, o, h1, h2, h3⟩ := h (fun e => by rw [e] at hx; cases hx)
  exact ⟨b, o, h1, h2, h3 k _ hx⟩
def preC : Array Value := #[.string ⟨#[]⟩, .string ⟨#[9]⟩, .string ⟨#[59, 32, 120, 32, 114, 49, 10]⟩, .string ⟨#[32, 32]⟩, .string ⟨#[10]⟩]
def sufC : Array Value := #[.string ⟨#[10]⟩, .string ⟨#[32, 10]⟩, .string ⟨#[59, 32, 110, 111, 112, 10]⟩, .string ⟨#[10, 10, 32, 10]⟩, .string ⟨#[9, 59, 10]⟩]
def blsC : Array Value := #[.string ⟨#[32]⟩, .string ⟨#[32, 32]⟩, .string ⟨#[9]⟩, .string ⟨#[32, 9, 32]⟩]
theorem preC_at (k : Nat) : preC[k % 5]? = some (.string ⟨(AS.pre k).toArray⟩) := by
  unfold AS.pre
  have h : k % 5 < 5 := by omega
  generalize k % 5 = j at h
  match j, h with
  | 0, _ => rfl
  | 1, _ => rfl
  | 2, _ => rfl
  | 3, _ => rfl
  | 4, _ => rfl
  | j + 5, h => omega
theorem sufC_at (k : Nat) : sufC[k / 5 % 5]? = some (.string ⟨(AS.suf k).toArray⟩) := by
  unfold AS.suf
  have h : k / 5 % 5 < 5 := by omega
  generalize k / 5 % 5 = j at h
  match j, h with
  | 0, _ => rfl
  | 1, _ => rfl
  | 2, _ => rfl
  | 3, _ => rfl
  | 4, _ => rfl
  | j + 5, h => omega
theorem blsC_at (k : Nat) : blsC[k % 4]? = some (.string ⟨(AS.bls k).toArray⟩) := by
  unfold AS.bls
  have h : k % 4 < 4 := by omega
  generalize k % 4 = j at h
  match j, h with
  | 0, _ => rfl
  | 1, _ => rfl
  | 2, _ => rfl
  | 3, _ => rfl
  | j + 4, h => omega
/-- What AsmText's loop knows. -/
def TxRel (f : Nat → Nat) (T : ByteArray) (w : World) (t ln i : Value) (wr : World) : Prop :=
  ∃ (k : Nat) (X Y : ByteArray), k ≤ T.size ∧ t = .string X ∧ ln = .string Y ∧ i = .int .i64 (k : Int) ∧ X.size + Y.size ≤ 13 * k ∧
    AS.tx f k (T.data.toList.drop k) (X.data.toList, Y.data.toList) = AS.tx f 0 T.data.toList ([], []) ∧ Below w.heap.size w wr
section
set_option maxHeartbeats 2000000
set_option maxRecDepth 100000
theorem asmtext_walk (A : Option Addr) (n c : Nat) (l : List Ins) (A2 : Option Addr) (m c2 : Nat) (bs : List Nat) (w : World) (hF : FmtIs w) (hP : PowIs w) (hM : MaxIs w) (hN : l.length = n) (_hlm : n ≤ maxLen) (ho : ∀ i ∈ l, i.op ≤ 255) (hr : Row w A (insCells l)) (hm : bs.length = m) (_hmm : m ≤ maxLen) (hob : ∀ v ∈ bs, v ≤ 255) (hrb : Row w A2 (bs.map fun (k : Nat) => Value.int .u8 (k : Int))) :
    Calls Tryd.prog 5 #[.slice A n c, .slice A2 m c2] w fun e w' => e = .returned (.bool true) ∧ Below w.heap.size w w' := by
  have hnot : ∀ (x : Bool) (w : World), (Op.unary .not (.bool x)).run Tryd.prog w = .ok (.bool (!x)) w := fun _ _ => rfl
  have HN := Lib.hid hN
  have HMl := Lib.hid hm
  have HF := Lib.hid hF
  have HP := Lib.hid hP
  have HM := Lib.hid hM
  have HA := Lib.hid (awake_any w hF hM hP)
  have HR := Lib.hid hr
  have HRB := Lib.hid hrb
  have HO := Lib.hid ho
  have HOB := Lib.hid hob
  clear hF hP hM hN hr ho hm hob hrb
  by_cases hbig : 40 < n ∨ m = 0 ∨ 40 < m
  · have hx : decide ((40 : Int) < (n : Int)) = true ∨ (decide ((40 : Int) < (n : Int)) = false ∧ m = 0) ∨ (decide ((40 : Int) < (n : Int)) = false ∧ ((m : Int) == 0) = false ∧ decide ((40 : Int) < (m : Int)) = true) := by
      by_cases h1 : 40 < n
      · exact .inl (by simp; omega)
      · rcases (show m = 0 ∨ (m ≠ 0 ∧ 40 < m) by omega) with h2 | ⟨h2, h3⟩
        · exact .inr (.inl ⟨by simp; omega, h2⟩)
        · exact .inr (.inr ⟨by simp; omega, beq_eq_false_iff_ne.2 (by omega), by simp; omega⟩)
    rcases hx with e1 | ⟨e1, rfl⟩ | ⟨e1, e2, e3⟩
    all_goals
      go_enter Tryd.func5, Tryd.ntmps5
      go_wp2_with fail
      refine HA.out.mono ?_
      rintro e w1 ⟨rfl, hb1⟩
      go_wp2_with fail
      go_ret
      exact ⟨rfl, hb1⟩
  have e1 : decide ((40 : Int) < (n : Int)) = false := by simp; omega
  have e2 : ((m : Int) == 0) = false := beq_eq_false_iff_ne.2 (by omega)
  have e3 : decide ((40 : Int) < (m : Int)) = false := by simp; omega
  have hm1 : 1 ≤ m := by omega
  have hm2 : m ≤ 40 := by omega
  have hn2 : n ≤ 40 := by omega
  clear hbig
  go_enter Tryd.func5, Tryd.ntmps5
  go_wp2_with fail
  refine HA.out.mono ?_
  rintro e w1 ⟨rfl, hb1⟩
  have HB1 := Lib.hid hb1
  have hff := format_any l A n c w1 HN.out (by omega) (HR.out.below hb1) HO.out (HF.out.below hb1) (HP.out.below hb1)
  rw [fmt_if (by rw [HN.out]; omega)] at hff
  clear hb1 HA
  cases hv : l.all AS.valid with
  | false =>
    rw [hv] at hff
    have HFF := Lib.hid hff
    have HV := Lib.hid (show vN l = 0 by unfold vN; rw [hv]; rfl)
    clear hff hv
    go_wp2_with fail
    refine HFF.out.mono ?_
    rintro e w2 ⟨rfl, hb2⟩
    have HB2 := Lib.hid (HB1.out.trans (hb2.mono HB1.out.size))
    have hLV := lvalid_any l A n c w2 HN.out (by omega) (HR.out.below HB2.out) HO.out (HF.out.below HB2.out)
    rw [HV.out] at hLV
    have HLV := Lib.hid hLV
    clear hb2 hLV
    go_wp2_with fail
    refine HLV.out.mono ?_
    rintro e w3 ⟨rfl, hb3⟩
    have HB3 := Lib.hid (HB2.out.trans (hb3.mono HB2.out.size))
    clear hb3
    go_wp2_with fail
    go_ret
    exact ⟨rfl, HB3.out⟩
  | true =>
    rw [hv] at hff
    simp only [if_true] at hff
    have hfl := AS.fmt_len hv
    have hptx := fun f => AS.parse_tx (f := f) hv (by rw [HN.out]; omega)
    obtain ⟨T, hT⟩ : ∃ T : ByteArray, T = ⟨(AS.fmtL l).toArray⟩ := ⟨_, rfl⟩
    have hTd : T.data.toList = AS.fmtL l := by rw [hT]
    have hTl : T.data.toList.length = T.size := Array.length_toList
    have hTs : T.size ≤ 1360 := by
      rw [hTd] at hTl
      have := HN.out
      omega
    rw [← hTd] at hptx
    rw [← hT] at hff
    have HFF := Lib.hid hff
    have HPTX := Lib.hid hptx
    clear hff hv hT hTd hfl hptx
    go_wp2_with fail
    refine HFF.out.mono ?_
    rintro e w2 ⟨rfl, hb2⟩
    have HB2 := Lib.hid (HB1.out.trans (hb2.mono HB1.out.size))
    clear hb2
    obtain ⟨f, hf⟩ : ∃ f : Nat → Nat, f = fun k => bs.getD (k % m) 0 := ⟨_, rfl⟩
    have HPT := Lib.hid (HPTX.out f)
    clear HPTX HFF
    go_wp2_with fail
    go_loopw [7, 8, 9] (fun t ln i wr => TxRel f T w2 t ln i wr) (fun _ _ i _ => T.size - (intOf i).toNat)
    case atStart => exact ⟨0, _, _, Nat.zero_le _, rfl, rfl, rfl, by decide, rfl, Below.refl _ _⟩
    case round =>
      obtain ⟨k, X, Y, hk, rfl, rfl, rfl, hXY, htx, hbw⟩ := hrel
      have HB := Lib.hid hbw
      have HBW := Lib.hid (HB2.out.trans (hbw.mono HB2.out.size))
      by_cases hlt : k < T.size
      · have q0 : (k : Int) < (T.size : Int) := by omega
        have hmod : k % m < m := Nat.mod_lt _ (by omega)
        obtain ⟨x, hx⟩ : ∃ x, bs[k % m]? = some x := ⟨_, List.getElem?_eq_getElem (by rw [HMl.out]; exact hmod)⟩
        have hx255 := HOB.out x (List.mem_of_getElem? hx)
        obtain ⟨rb, ro, hA2, hrb, c0⟩ := (HRB.out.below HBW.out).u8 hx
        subst hA2
        have hfk : f k = x := by rw [hf]; simp [hx]
        have hdr : T.data.toList.drop k = T.data.toList[k]'(by omega) :: T.data.toList.drop (k + 1) := List.drop_eq_getElem_cons (by omega)
        have hTk : ∀ h, T[k]'h = T.data.toList[k]'(by omega) := fun h => rfl
        rw [hdr, AS.tx, hfk] at htx
        obtain ⟨x1, x2⟩ := ext_one T k hlt
        generalize T.data.toList[k]'(by omega) = b at *
        have p1 : (0 : Int) ≤ (k : Int) % (m : Int) := by omega
        have p2 : (k : Int) % (m : Int) < (m : Int) := by omega
        clear hrb hbw hx hdr hf hfk
        by_cases h10 : b = 10
        · subst h10
          rw [if_pos rfl] at htx
          have HTX := Lib.hid htx
          clear htx x1 x2
          have m1 : (wr.alloc (.cells #[.string ⟨#[]⟩, .string ⟨#[9]⟩, .string ⟨#[59, 32, 120, 32, 114, 49, 10]⟩, .string ⟨#[32, 32]⟩, .string ⟨#[10]⟩] 9)).cell? ⟨wr.heap.size, x % 5, none⟩ = some (.string ⟨(AS.pre x).toArray⟩) := (Blk.new wr 9 preC).cell (x % 5) |>.trans (preC_at x)
          have m2 : (wr.alloc (.cells #[.string ⟨#[10]⟩, .string ⟨#[32, 10]⟩, .string ⟨#[59, 32, 110, 111, 112, 10]⟩, .string ⟨#[10, 10, 32, 10]⟩, .string ⟨#[9, 59, 10]⟩] 9)).cell? ⟨wr.heap.size, x / 5 % 5, none⟩ = some (.string ⟨(AS.suf x).toArray⟩) := (Blk.new wr 9 sufC).cell (x / 5 % 5) |>.trans (sufC_at x)
          have m3 : ((wr.alloc (.cells #[.string ⟨#[]⟩, .string ⟨#[9]⟩, .string ⟨#[59, 32, 120, 32, 114, 49, 10]⟩, .string ⟨#[32, 32]⟩, .string ⟨#[10]⟩] 9)).alloc (.cells #[.string ⟨#[10]⟩, .string ⟨#[32, 10]⟩, .string ⟨#[59, 32, 110, 111, 112, 10]⟩, .string ⟨#[10, 10, 32, 10]⟩, .string ⟨#[9, 59, 10]⟩] 9)).cell? ⟨wr.heap.size, x % 5, none⟩ = some (.string ⟨(AS.pre x).toArray⟩) := ((Blk.new wr 9 preC).alloc _).cell (x % 5) |>.trans (preC_at x)
          have m4 : ((wr.alloc (.cells #[.string ⟨#[10]⟩, .string ⟨#[32, 10]⟩, .string ⟨#[59, 32, 110, 111, 112, 10]⟩, .string ⟨#[10, 10, 32, 10]⟩, .string ⟨#[9, 59, 10]⟩] 9)).alloc (.cells #[.string ⟨#[]⟩, .string ⟨#[9]⟩, .string ⟨#[59, 32, 120, 32, 114, 49, 10]⟩, .string ⟨#[32, 32]⟩, .string ⟨#[10]⟩] 9)).cell? ⟨wr.heap.size, x / 5 % 5, none⟩ = some (.string ⟨(AS.suf x).toArray⟩) := ((Blk.new wr 9 sufC).alloc _).cell (x / 5 % 5) |>.trans (sufC_at x)
          have m5 : ((wr.alloc (.cells #[.string ⟨#[]⟩, .string ⟨#[9]⟩, .string ⟨#[59, 32, 120, 32, 114, 49, 10]⟩, .string ⟨#[32, 32]⟩, .string ⟨#[10]⟩] 9)).alloc (.cells #[.string ⟨#[10]⟩, .string ⟨#[32, 10]⟩, .string ⟨#[59, 32, 110, 111, 112, 10]⟩, .string ⟨#[10, 10, 32, 10]⟩, .string ⟨#[9, 59, 10]⟩] 9)).cell? ⟨wr.heap.size + 1, x / 5 % 5, none⟩ = some (.string ⟨(AS.suf x).toArray⟩) := (by have := (Blk.new (wr.alloc (.cells preC 9)) 9 sufC).cell (x / 5 % 5); rw [show (wr.alloc (.cells preC 9)).heap.size = wr.heap.size + 1 from by simp] at this; exact this.trans (sufC_at x))
          have m6 : ((wr.alloc (.cells #[.string ⟨#[10]⟩, .string ⟨#[32, 10]⟩, .string ⟨#[59, 32, 110, 111, 112, 10]⟩, .string ⟨#[10, 10, 32, 10]⟩, .string ⟨#[9, 59, 10]⟩] 9)).alloc (.cells #[.string ⟨#[]⟩, .string ⟨#[9]⟩, .string ⟨#[59, 32, 120, 32, 114, 49, 10]⟩, .string ⟨#[32, 32]⟩, .string ⟨#[10]⟩] 9)).cell? ⟨wr.heap.size + 1, x % 5, none⟩ = some (.string ⟨(AS.pre x).toArray⟩) := (by have := (Blk.new (wr.alloc (.cells sufC 9)) 9 preC).cell (x % 5); rw [show (wr.alloc (.cells sufC 9)).heap.size = wr.heap.size + 1 from by simp] at this; exact this.trans (preC_at x))
          have z1 := AS.pre_len x
          have z2 := AS.suf_len x
          have r1 : (x : Int) % 5 < 5 := by omega
          have r2 : (x : Int) / 5 % 5 < 5 := by omega
          have r3 : (0 : Int) ≤ (x : Int) % 5 := by omega
          have r4 : (0 : Int) ≤ (x : Int) / 5 % 5 := by omega
          have hs1 : (⟨(AS.pre x).toArray⟩ : ByteArray).size ≤ 7 := by simp [ByteArray.size]; omega
          have hs2 : (⟨(AS.suf x).toArray⟩ : ByteArray).size ≤ 6 := by simp [ByteArray.size]; omega
          have HPX : Hid ((⟨(AS.pre x).toArray⟩ : ByteArray).data.toList = AS.pre x) := Lib.hid rfl
          have HSX : Hid ((⟨(AS.suf x).toArray⟩ : ByteArray).data.toList = AS.suf x) := Lib.hid rfl
          generalize (⟨(AS.pre x).toArray⟩ : ByteArray) = PX at *
          generalize (⟨(AS.suf x).toArray⟩ : ByteArray) = SX at *
          go_wp2_with fail
          go_region
          all_goals
            go_wp2_with fail
            refine ⟨⟨k + 1, _, _, by omega, rfl, rfl, by simp, ?_, ?_, ?_⟩, by simp [intOf]; omega⟩
            · simp only [ByteArray.size_append, show (⟨#[]⟩ : ByteArray).size = 0 from rfl]; omega
            · have := HTX.out
              rw [← HPX.out, ← HSX.out] at this
              simpa [ByteArray.data_append] using this
            · exact (below_new (below_new HB.out _) _).drew
        · have b10 : ((b.toNat : Int) == 10) = false := by
            refine beq_eq_false_iff_ne.2 (fun h => h10 (UInt8.toNat.inj ?_)); show b.toNat = 10; omega
          rw [if_neg h10] at htx
          by_cases h32 : b = 32
          · subst h32
            rw [if_pos rfl] at htx
            have HTX := Lib.hid htx
            clear htx x1 x2 b10 h10
            have m7 : (wr.alloc (.cells #[.string ⟨#[32]⟩, .string ⟨#[32, 32]⟩, .string ⟨#[9]⟩, .string ⟨#[32, 9, 32]⟩] 9)).cell? ⟨wr.heap.size, x % 4, none⟩ = some (.string ⟨(AS.bls x).toArray⟩) := (Blk.new wr 9 blsC).cell (x % 4) |>.trans (blsC_at x)
            have z1 := (AS.bls_ok x).1
            have r1 : (x : Int) % 4 < 4 := by omega
            have r3 : (0 : Int) ≤ (x : Int) % 4 := by omega
            have hs1 : (⟨(AS.bls x).toArray⟩ : ByteArray).size ≤ 3 := by simp [ByteArray.size]; omega
            have HPX : Hid ((⟨(AS.bls x).toArray⟩ : ByteArray).data.toList = AS.bls x) := Lib.hid rfl
            generalize (⟨(AS.bls x).toArray⟩ : ByteArray) = PX at *
            go_wp2_with fail
            refine ⟨⟨k + 1, _, _, by omega, rfl, rfl, by simp, ?_, ?_, ?_⟩, by simp [intOf]; omega⟩
            · simp only [ByteArray.size_append]; omega
            · have := HTX.out
              rw [← HPX.out] at this
              simpa [ByteArray.data_append] using this
            · exact below_new HB.out _
          · have b32 : ((b.toNat : Int) == 32) = false := by
              refine beq_eq_false_iff_ne.2 (fun h => h32 (UInt8.toNat.inj ?_)); show b.toNat = 32; omega
            rw [if_neg h32] at htx
            have HTX := Lib.hid htx
            have X1 := Lib.hid x1
            have X2 := Lib.hid x2
            clear htx h10 h32 x1
            go_wp2_with fail
            refine ⟨⟨k + 1, _, _, by omega, rfl, rfl, by simp, ?_, ?_, ?_⟩, by simp [intOf]; omega⟩
            · rw [ByteArray.size_append, X2.out]; omega
            · have := HTX.out
              rw [← X1.out] at this
              simpa [ByteArray.data_append] using this
            · exact HB.out
      · have q1 : ¬ (k : Int) < (T.size : Int) := by omega
        have hkk : k = T.size := by omega
        rw [hkk, List.drop_eq_nil_of_le (by omega), AS.tx] at htx
        have hX := HPT.out
        rw [← htx] at hX
        have hX' : AS.parse X.data.toList = (l, 0, 0) := hX
        have hpp := parse_any X wr (by omega) (HF.out.below HBW.out) (HM.out.below HBW.out)
        rw [hX'] at hpp
        have HPP := Lib.hid hpp
        clear hpp hX hX' htx hbw
        go_wp2_with fail
        refine HPP.out.mono ?_
        rintro e w5 ⟨A5, n5, c5, rfl, hn5, hr5, hb5⟩
        have hn5' : n5 = n := hn5.trans HN.out
        clear hn5
        subst hn5'
        have HB5 := Lib.hid (HBW.out.trans (hb5.mono HBW.out.size))
        have HSA := Lib.hid (lsame_any l A5 A n5 c5 c w5 HN.out (by omega) hr5 (HR.out.below HB5.out))
        clear hr5 hb5
        go_wp2_with fail
        refine HSA.out.mono ?_
        rintro e w6 ⟨rfl, hb6⟩
        have HB6 := Lib.hid (HB5.out.trans (hb6.mono HB5.out.size))
        clear hb6
        go_wp2_with fail
        go_ret
        exact ⟨rfl, HB6.out⟩
end
end Go.Proofs.YtgeagpplihecmaaDoor
