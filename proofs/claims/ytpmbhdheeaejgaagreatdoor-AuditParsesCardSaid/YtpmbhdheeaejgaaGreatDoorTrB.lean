/- Numbers and words of a trace, read and written. -/
import Derived.Test.YtpmbhdheeaejgaaGreatDoorTrA
namespace Go.Proofs.YtpmbhdheeaejgaaGreatDoor
open Go.RowKit Go.Maps Go.Sort Go.Lib
/-- What the library's errors read as: values of an interface. -/
def VarI (w : World) (g : Nat) : Prop := g < w.heap.size ∧ ∃ ev, w.cell? ⟨g, 0, none⟩ = some ev ∧ (ev = .nilIface ∨ ∃ te pe, ev = .iface te pe)
theorem VarI.below {w w' : World} {g : Nat} (h : VarI w g) (hb : Below w.heap.size w w') : VarI w' g := by
  obtain ⟨h1, ev, h2, h3⟩ := h
  exact ⟨Nat.lt_of_lt_of_le h1 hb.size, ev, (hb.cell (p := ⟨g, 0, none⟩) h1).trans h2, h3⟩
/-- What the walks below lean on. -/
structure TrIs (w : World) : Prop where
  pow : PowIs w
  max : MaxIs w
  syn : VarI w 2
  rng : VarI w 3
theorem TrIs.below {w w' : World} (h : TrIs w) (hb : Below w.heap.size w w') : TrIs w' := ⟨h.pow.below hb, h.max.below hb, h.syn.below hb, h.rng.below hb⟩
theorem below_grow2 (w : World) (q : Nat) (os : Array Obj) : Below w.heap.size w (Go.Sort.grow (w.drewN q) os) := Lib.below_grow _ w (Nat.le_refl _) q os
theorem itoa_bl (n : Int) (h : TR.i64 n) (w : World) (hP : PowIs w) :
    Calls Tryz.prog 15 #[.int .i64 n] w fun e w' => e = .returned (.string ⟨(Lib.itoa n).toArray⟩) ∧ Below w.heap.size w w' := by
  refine (itoa_any n h w hP).mono ?_
  rintro e w' ⟨rfl, q, os, rfl⟩
  exact ⟨rfl, below_grow2 w q os⟩
def numV (s : List UInt8) : Value := match TR.numP s with
  | some n => .tuple #[.int .i64 n, .bool true]
  | none => .tuple #[.int .i64 0, .bool false]
theorem ba_eq {s : ByteArray} {l : List UInt8} : (⟨l.toArray⟩ : ByteArray) = s ↔ l = s.data.toList := by
  constructor
  · rintro rfl; simp
  · intro h; cases s; simp at h; subst h; simp
section
set_option maxHeartbeats 2000000
set_option maxRecDepth 100000
theorem word_any (k : Nat) (w : World) : Calls Tryz.prog 16 #[.int .u8 (k : Int)] w fun e w' => e = .returned (.string ⟨(TR.word k).toArray⟩) ∧ w' = w := by
  by_cases hk : TR.known k
  · rcases TR.known_cases hk with rfl | rfl | rfl | rfl | rfl | rfl | rfl
    all_goals
      go_enter Tryz.func16, Tryz.ntmps16
      go_wp2_with fail
      go_ret
      exact ⟨rfl, rfl⟩
  · rw [TR.word_un hk]
    unfold TR.known at hk
    have e1 : ((k : Int) == 1) = false := by simp; omega
    have e2 : ((k : Int) == 2) = false := by simp; omega
    have e3 : ((k : Int) == 3) = false := by simp; omega
    have e4 : ((k : Int) == 4) = false := by simp; omega
    have e5 : ((k : Int) == 5) = false := by simp; omega
    have e6 : ((k : Int) == 6) = false := by simp; omega
    have e7 : ((k : Int) == 7) = false := by simp; omega
    clear hk
    go_enter Tryz.func16, Tryz.ntmps16
    go_wp2_with fail
    go_ret
    exact ⟨rfl, rfl⟩
theorem number_any (l : List UInt8) (hs : l.length ≤ 1000000000) (w : World) (hT : TrIs w) :
    Calls Tryz.prog 27 #[.string ⟨l.toArray⟩] w fun e w' => e = .returned (numV l) ∧ Below w.heap.size w w' := by
  have HT := Lib.hid hT
  have hz : (⟨l.toArray⟩ : ByteArray).size = l.length := by simp [ByteArray.size]
  unfold numV TR.numP
  clear hT
  cases ha : Lib.atoiAll l with
  | ok v =>
    have hv := Lib.atoiAll_bounds ha
    have HA := Lib.hid (Tryz.strconv_Atoi_ok ⟨l.toArray⟩ (by omega) v ha w)
    have HI := Lib.hid (fun W (hW : Below w.heap.size w W) => itoa_bl v hv W (HT.out.pow.below hW))
    simp only
    clear ha hz
    by_cases he : Lib.itoa v = l
    all_goals
      first
      | (rw [if_pos he]; have n1 : (Lib.itoa v == l) = true := by simp [he])
      | (rw [if_neg he]; have n1 : (Lib.itoa v == l) = false := by simp [he])
      clear he
      go_enter Tryz.func27, Tryz.ntmps27
      go_wp2_with fail
      refine HA.out.mono ?_
      rintro e w1 ⟨rfl, h1⟩
      have HB1 := Lib.hid (show Below w.heap.size w w1 by
        rcases h1 with rfl | ⟨t, rfl⟩
        · exact Below.refl _ _
        · exact Lib.bytesWorld_below w _ t)
      clear h1 HA
      go_wp2_with fail
      refine (HI.out w1 HB1.out).mono ?_
      rintro e w2 ⟨rfl, hb2⟩
      have HB2 := Lib.hid (HB1.out.trans (hb2.mono HB1.out.size))
      clear hb2 HI
      go_wp2_with fail
      go_ret2
      exact ⟨rfl, HB2.out⟩
  | range =>
    obtain ⟨_, ev, h1, h2⟩ := HT.out.rng
    have HA := Lib.hid (Tryz.strconv_Atoi_range ⟨l.toArray⟩ (by omega) ha ev w h1 h2)
    simp only
    clear ha h1 h2 hz
    go_enter Tryz.func27, Tryz.ntmps27
    go_wp2_with fail
    refine HA.out.mono ?_
    rintro e w1 ⟨N, rfl, _, _, hb⟩
    go_wp2_with fail
    go_ret2
    exact ⟨rfl, hb⟩
  | _ =>
    obtain ⟨_, ev, h1, h2⟩ := HT.out.syn
    have HA := Lib.hid (Tryz.strconv_Atoi_bad ⟨l.toArray⟩ (by omega) (fun v hv => by rw [show (⟨l.toArray⟩ : ByteArray).data.toList = l from rfl, ha] at hv; cases hv) (fun hv => by rw [show (⟨l.toArray⟩ : ByteArray).data.toList = l from rfl, ha] at hv; cases hv) ev w h1 h2)
    simp only
    clear ha h1 h2 hz
    go_enter Tryz.func27, Tryz.ntmps27
    go_wp2_with fail
    refine HA.out.mono ?_
    rintro e w1 ⟨N, rfl, _, _, hb⟩
    go_wp2_with fail
    go_ret2
    exact ⟨rfl, hb⟩
end
end Go.Proofs.YtpmbhdheeaejgaaGreatDoor
