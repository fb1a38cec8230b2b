/- The contract of isa.Encode. -/
import Derived.Test.YtgeagpplihecmaaDoorAsA
import Derived.Test.YtgeagpplihecmaaDoorPlainAsm6
import Derived.Laws.BitsAllLaws
namespace Go.Proofs.YtgeagpplihecmaaDoor
open Go.RowKit
open AS (Ins)
section
set_option maxHeartbeats 1000000
set_option maxRecDepth 100000
theorem opers_at (op k : Nat) (hk : k < (AS.shape op).length) : ∀ h, (⟨(AS.opers op).toArray⟩ : ByteArray)[k]'h = AS.letter ((AS.shape op)[k]'hk) := fun h => by
  show (AS.opers op).toArray[k] = _
  simp [AS.opers]
theorem opers_len (op : Nat) : (⟨(AS.opers op).toArray⟩ : ByteArray).size = (AS.shape op).length := by simp [ByteArray.size, AS.opers]
theorem u32_mask (x : Int) (n : Nat) (hn : 2 ^ n ≤ 4294967296) : bits .and .u32 (x % 4294967296) ((2 ^ n - 1 : Nat) : Int) = ((x % ((2 ^ n : Nat) : Int)).toNat : Int) := by
  have hp := Nat.two_pow_pos n
  have h1 : 0 ≤ x % 4294967296 := Int.emod_nonneg _ (by decide)
  have h2 : x % 4294967296 < 4294967296 := Int.emod_lt_of_pos _ (by decide)
  obtain ⟨a, ha⟩ := Int.eq_ofNat_of_zero_le h1
  have ha' : a < 4294967296 := by omega
  rw [ha, u32_and_nat a (2 ^ n - 1) ha' (by omega), Nat.and_two_pow_sub_one_eq_mod]
  have h3 : x % ((2 ^ n : Nat) : Int) = ((a % 2 ^ n : Nat) : Int) := by
    have hd : ((2 ^ n : Nat) : Int) ∣ 4294967296 := by
      have : (2 : Nat) ^ n ∣ 2 ^ 32 := Nat.pow_dvd_pow 2 (by
        rcases Nat.lt_or_ge 32 n with h | h
        · have := Nat.pow_lt_pow_right (a := 2) (by decide) h
          omega
        · exact h)
      exact Int.natCast_dvd_natCast.2 this
    rw [← Int.emod_emod_of_dvd x hd, ha]; rfl
  rw [h3]; rfl
theorem enc_bits (i : Ins) (j : Nat) (h : j < (AS.shape i.op).length) (h30 : i.op < 30) (k a b : Nat) (hk : (AS.shape i.op)[j] = k) (hw : AS.wid k = 2 ^ a) (hp : AS.plc k = 2 ^ b) (hb : 2 ^ a ≤ 4294967296) :
    bits .or .u32 (AS.encAt i j : Int) (bits .and .u32 (i.get k % 4294967296) ((2 ^ a - 1 : Nat) : Int) * ((2 ^ b : Nat) : Int) % 4294967296) = (AS.encAt i (j + 1) : Int) := by
  obtain ⟨e1, e2, e3⟩ := AS.enc_or i j h h30
  rw [hk] at e1 e3
  have hf : (i.get k % ((2 ^ a : Nat) : Int)).toNat = AS.fld i k := by unfold AS.fld; rw [hw]
  rw [u32_mask _ _ hb, hf, ← hp, show ((AS.fld i k : Int) * (AS.plc k : Int)) = ((AS.fld i k * AS.plc k : Nat) : Int) from by simp]
  rw [show (((AS.fld i k * AS.plc k : Nat) : Int) % 4294967296) = ((AS.fld i k * AS.plc k : Nat) : Int) from Int.emod_eq_of_lt (by omega) (by omega)]
  rw [u32_or_nat _ _ e2 e3, e1]
theorem encode_ok (i : Ins) (hop : i.op ≤ 255) (w : World) (hF : FmtIs w) (hv : AS.valid i = true) : Calls Tryd.prog 21 #[.agg (insV i)] w fun e w' => e = .returned (.tuple #[.int .u32 (AS.enc i : Int), .int .i64 0]) ∧ Below w.heap.size w w' := by
  have hb1 : Below w.heap.size w (w.alloc (.cells (insV i) 48)) := (Below.refl _ _).alloc (Nat.le_refl _) _
  have hk1 := Blk.new w 48 (insV i)
  have hF1 := hF.below hb1
  have hva := valid_any i hop _ hF1
  rw [hv] at hva
  have h30 := AS.valid_lt hv
  have x := hk1.five
  obtain ⟨x0, x1, x2, x3, x4⟩ := x
  have HVA := Lib.hid hva
  have HK1 := Lib.hid hk1
  have HB1 := Lib.hid hb1
  have HF1 := Lib.hid hF1
  clear hva hk1 hb1 hF1 hF
  have hnot : ∀ (x : Bool) (w : World), (Op.unary .not (.bool x)).run Tryd.prog w = .ok (.bool (!x)) w := fun _ _ => rfl
  go_enter Tryd.func21, Tryd.ntmps21
  go_wp2_with fail
  refine HVA.out.mono ?_
  rintro e w2 ⟨rfl, hb2⟩
  have hF2 := HF1.out.below hb2
  have c1 : w2.cell? ⟨0, i.op * 6 + 1, none⟩ = some (.string ⟨(AS.opers i.op).toArray⟩) := hF2.cell i.op 1 h30 (by decide)
  clear x0 x1 x2 x3 x4
  obtain ⟨x0, x1, x2, x3, x4⟩ := (HK1.out.below hb2).five
  have hl := (HK1.out.below hb2).lt
  have p1 : (0 : Int) ≤ (i.op : Int) := by omega
  have p2 : (i.op : Int) < 30 := by omega
  have HB2 := Lib.hid (HB1.out.trans (hb2.mono HB1.out.size))
  have HK2 := Lib.hid (HK1.out.below hb2)
  clear hb2 hF2
  go_wp2_with fail
  have hsz := opers_len i.op
  have hat := opers_at i.op
  have hle := AS.shape_le i.op
  generalize hD : (⟨(AS.opers i.op).toArray⟩ : ByteArray) = D at *
  have HSZ := Lib.hid hsz
  have HAT := Lib.hid hat
  have HLE := Lib.hid hle
  have hsh : (AS.shape i.op).length ≤ 3 := AS.shape_len i.op
  have hds : D.size ≤ 3 := by omega
  clear hsz hat hle hD c1 x0 x1 x2 x3 x4
  go_loopw [5, 23] (fun a v wr => ∃ k : Nat, k ≤ D.size ∧ v = .int .i64 (k : Int) ∧ a = .int .u32 (AS.encAt i k : Int) ∧ ∃ n, wr = w2.drewN n) (fun _ v _ => D.size - (intOf v).toNat)
  case atStart => exact ⟨0, by omega, rfl, by simp [AS.encAt], 0, rfl⟩
  case round =>
    obtain ⟨k, hk, rfl, rfl, n, hw⟩ := hrel
    by_cases hlt : k < D.size
    · have hlt' : k < (AS.shape i.op).length := by rw [← HSZ.out]; exact hlt
      have hL := HAT.out k hlt'
      have q1 : (k : Int) < (D.size : Int) := by omega
      have q2 : k < (AS.opers i.op).length := by simp [AS.opers]; exact hlt'
      have hk3 : (AS.shape i.op)[k] ≤ 3 := HLE.out _ (List.getElem_mem hlt')
      have hz : ∀ q, (wr.drewN q).cell? ⟨w.heap.size, (AS.shape i.op)[k] + 1, none⟩ = some (.int .i64 (i.get (AS.shape i.op)[k])) := fun q => by
        rw [hw, ((HK2.out.drewN n).drewN q).cell ((AS.shape i.op)[k] + 1)]
        generalize (AS.shape i.op)[k] = m at *
        have : m = 0 ∨ m = 1 ∨ m = 2 ∨ m = 3 := by omega
        rcases this with rfl | rfl | rfl | rfl <;> rfl
      have hen := enc_bits i k hlt' h30
      generalize (AS.shape i.op)[k] = m at *
      have HEN := Lib.hid hen
      have HZ := Lib.hid hz
      obtain ⟨lo, sz, hpo, hcs⟩ : ∃ lo sz : Int, (∀ W, Calls Tryd.prog 38 #[.int .u8 ((AS.letter m).toNat : Int)] W fun e w' => e = .returned (.tuple #[.int .i64 lo, .int .i64 sz]) ∧ W = w') ∧ ((m = 0 ∧ lo = 22 ∧ sz = 4) ∨ (m = 1 ∧ lo = 18 ∧ sz = 4) ∨ (m = 2 ∧ lo = 14 ∧ sz = 4) ∨ (m = 3 ∧ lo = 0 ∧ sz = 18)) := by
        refine ⟨_, _, fun W => position_any m hk3 W, ?_⟩
        have : m = 0 ∨ m = 1 ∨ m = 2 ∨ m = 3 := by omega
        rcases this with rfl | rfl | rfl | rfl <;> simp [posn]
      have hfi : ∀ n, Calls Tryd.prog 39 #[.pointer (some ⟨w.heap.size, 0, none⟩), .int .u8 ((AS.letter m).toNat : Int)] (wr.drewN n) fun e w' => e = .returned (.pointer (some ⟨w.heap.size, m + 1, none⟩)) ∧ ∃ q, w' = wr.drewN q := fun n => quiet_left (field_any w.heap.size m hk3 (wr.drewN n))
      have HW := Lib.hid hw
      have HPO := Lib.hid hpo
      have hz1 := HZ.out
      clear hz hw hpo HZ hen
      rcases hcs with ⟨rfl, rfl, rfl⟩ | ⟨rfl, rfl, rfl⟩ | ⟨rfl, rfl, rfl⟩ | ⟨rfl, rfl, rfl⟩
      all_goals
        simp only [Nat.zero_add, Nat.reduceAdd] at hz1 hfi
        have HFJ := Lib.hid hfi
        clear hfi
        go_wp2_with fail
        refine (HPO.out _).mono ?_
        rintro e w3 ⟨rfl, rfl⟩
        go_wp2_with fail
      · go_quiet ((go_at_call 39; exact HFJ.out _))
        go_wp2_with fail
        refine ⟨⟨k + 1, by omega, by simp, congrArg (Value.int .u32) (HEN.out _ 4 22 rfl (by decide) (by decide) (by decide)), ?_⟩, by simp [intOf]; omega⟩
        rw [HW.out]; exact ⟨n + nq, World.drewN_drewN _ _ _⟩
      · go_quiet ((go_at_call 39; exact HFJ.out _))
        go_wp2_with fail
        refine ⟨⟨k + 1, by omega, by simp, congrArg (Value.int .u32) (HEN.out _ 4 18 rfl (by decide) (by decide) (by decide)), ?_⟩, by simp [intOf]; omega⟩
        rw [HW.out]; exact ⟨n + nq, World.drewN_drewN _ _ _⟩
      · go_quiet ((go_at_call 39; exact HFJ.out _))
        go_wp2_with fail
        refine ⟨⟨k + 1, by omega, by simp, congrArg (Value.int .u32) (HEN.out _ 4 14 rfl (by decide) (by decide) (by decide)), ?_⟩, by simp [intOf]; omega⟩
        rw [HW.out]; exact ⟨n + nq, World.drewN_drewN _ _ _⟩
      · go_quiet ((go_at_call 39; exact HFJ.out _))
        go_wp2_with fail
        have e3 := HEN.out 3 18 0 rfl (by decide) (by decide) (by decide)
        simp only [Nat.reducePow, Nat.reduceSub, Int.cast_ofNat_Int, Int.mul_one] at e3
        refine ⟨⟨k + 1, by omega, by simp, congrArg (Value.int .u32) e3, ?_⟩, by simp [intOf]; omega⟩
        rw [HW.out]; exact ⟨n + nq, World.drewN_drewN _ _ _⟩
    · have HKK := Lib.hid (show k = (AS.shape i.op).length by have := HSZ.out; omega)
      have q2 : ¬ k < (AS.opers i.op).length := by have := HKK.out; simp [AS.opers]; omega
      go_wp2_with fail
      go_ret2
      have e1 : AS.encAt i k = AS.enc i := by rw [HKK.out]; rfl
      rw [e1]
      exact ⟨rfl, below_drewN HB2.out n⟩
theorem encode_bad (i : Ins) (hop : i.op ≤ 255) (w : World) (hF : FmtIs w) (hv : AS.valid i = false) : Calls Tryd.prog 21 #[.agg (insV i)] w fun e w' => e = .returned (.tuple #[.int .u32 0, .int .i64 3]) ∧ Below w.heap.size w w' := by
  have hb1 : Below w.heap.size w (w.alloc (.cells (insV i) 48)) := (Below.refl _ _).alloc (Nat.le_refl _) _
  have hF1 := hF.below hb1
  have hva := valid_any i hop _ hF1
  rw [hv] at hva
  have x := (Blk.new w 48 (insV i)).five
  obtain ⟨x0, x1, x2, x3, x4⟩ := x
  have HVA := Lib.hid hva
  have HB1 := Lib.hid hb1
  clear hva hb1 hF1 hF
  have hnot : ∀ (x : Bool) (w : World), (Op.unary .not (.bool x)).run Tryd.prog w = .ok (.bool (!x)) w := fun _ _ => rfl
  go_enter Tryd.func21, Tryd.ntmps21
  go_wp2_with fail
  refine HVA.out.mono ?_
  rintro e w2 ⟨rfl, hb2⟩
  have HB2 := Lib.hid (HB1.out.trans (hb2.mono HB1.out.size))
  clear hb2 x0 x1 x2 x3 x4
  go_wp2_with fail
  go_ret2
  exact ⟨rfl, HB2.out⟩
/-- What Encode returns. -/
def encR (i : Ins) : Nat × Nat := if AS.valid i then (AS.enc i, 0) else (0, 3)
theorem encode_any (i : Ins) (hop : i.op ≤ 255) (w : World) (hF : FmtIs w) : Calls Tryd.prog 21 #[.agg (insV i)] w fun e w' => e = .returned (.tuple #[.int .u32 ((encR i).1 : Int), .int .i64 ((encR i).2 : Int)]) ∧ Below w.heap.size w w' := by
  cases hv : AS.valid i with
  | true => have h := encode_ok i hop w hF hv; unfold encR; rw [hv]; exact h
  | false => have h := encode_bad i hop w hF hv; unfold encR; rw [hv]; exact h
end
end Go.Proofs.YtgeagpplihecmaaDoor
