/- The contract of isa.Decode. -/
import Derived.Test.YtgeagpplihecmaaDoorAsB
import Derived.Deep.RegionLaw
import Derived.Deep.RegionWith
namespace Go.Proofs.YtgeagpplihecmaaDoor
open Go.RowKit
open AS (Ins)
theorem ins2_result {fn : Func} {p q : Tmp} (h : fn.results = #[.cell p 48, .tmp q]) {tmps : Array Value} {w : World} {g : Nat} {i : Ins} (hp : tmps.getD p undef = .pointer (some ⟨g, 0, none⟩)) (hb : Blk w g 48 (insV i)) :
    (results fn tmps).run Tryd.prog w = .ok (.tuple #[.agg (insV i), tmps.getD q undef]) w := by
  have hp' : tmps[p]?.getD undef = .pointer (some ⟨g, 0, none⟩) := by simpa using hp
  simp [results, h, hp', asAddr, run_loadVar_row w g 48 48 (insV i) (0, 0) _ hb Tryd.underlying48 rfl (by kernel_rfl)]
theorem get_put (i : Ins) (k : Nat) (v : Int) (hk : k ≤ 3) : (insV i).setIfInBounds (k + 1) (.int .i64 v) = insV (i.put k v) := by
  have : k = 0 ∨ k = 1 ∨ k = 2 ∨ k = 3 := by omega
  rcases this with rfl | rfl | rfl | rfl <;> rfl
theorem getF_reg (x k : Nat) (hk : k ≠ 3) : AS.getF x k = ((x / AS.plc k % 16 : Nat) : Int) := by
  unfold AS.getF AS.wid
  simp [hk]
theorem getF_imm (x : Nat) : AS.getF x 3 = if 131072 ≤ x % 262144 then ((x % 262144 : Nat) : Int) - 262144 else ((x % 262144 : Nat) : Int) := by
  unfold AS.getF AS.wid AS.plc
  simp
def DecRel (w : World) (x k : Nat) (wr : World) : Prop :=
  Below w.heap.size w wr ∧ Blk wr w.heap.size 48 (insV Ins.zero) ∧ Blk wr (w.heap.size + 1) 48 (insV (AS.decAt x k))
theorem DecRel.drewN {w wr : World} {x k : Nat} (h : DecRel w x k wr) (n : Nat) : DecRel w x k (wr.drewN n) := ⟨below_drewN h.1 n, h.2.1.drewN n, h.2.2.drewN n⟩
theorem decAt_succ (w j : Nat) (h : j < (AS.shape (w / 67108864)).length) : AS.decAt w (j + 1) = (AS.decAt w j).put (AS.shape (w / 67108864))[j] (AS.getF w (AS.shape (w / 67108864))[j]) := by
  unfold AS.decAt
  rw [List.take_add_one, List.getElem?_eq_getElem h, Option.toList_some, List.foldl_append]
  rfl
theorem put_op (i : Ins) (k : Nat) (v : Int) : (i.put k v).op = i.op := AS.put_op i k v
theorem decAt_op (w j : Nat) : (AS.decAt w j).op = w / 67108864 := by
  unfold AS.decAt
  generalize (AS.shape (w / 67108864)).take j = l
  have : ∀ (l : List Nat) (i : Ins), (l.foldl (fun i k => i.put k (AS.getF w k)) i).op = i.op := by
    intro l
    induction l with
    | nil => intro i; rfl
    | cons k l ih => intro i; rw [List.foldl_cons, ih, put_op]
  rw [this]
theorem mask_nat (x p n : Nat) (hx : x < 4294967296) (hn : 2 ^ n ≤ 4294967296) : bits .and .u32 ((x : Int) / ((p : Nat) : Int)) ((2 ^ n - 1 : Nat) : Int) = ((x / p % 2 ^ n : Nat) : Int) := by
  have h1 := Nat.div_le_self x p
  have h2 := Nat.two_pow_pos n
  rw [show ((x : Int) / ((p : Nat) : Int)) = ((x / p : Nat) : Int) from rfl, u32_and_nat _ _ (by omega) (by omega), Nat.and_two_pow_sub_one_eq_mod]
theorem DecRel.step {w wr : World} {x k m : Nat} {v : Int} (h : DecRel w x k wr) (hs : AS.decAt x (k + 1) = (AS.decAt x k).put m (AS.getF x m)) (hm : m ≤ 3) (hv : AS.getF x m = v) : DecRel w x (k + 1) (wr.setCell ⟨w.heap.size + 1, m + 1, none⟩ (.int .i64 v)) := by
  refine ⟨h.1.setCell (p := ⟨w.heap.size + 1, m + 1, none⟩) (by show w.heap.size ≤ w.heap.size + 1; omega) _, h.2.1.far (p := ⟨w.heap.size + 1, m + 1, none⟩) (by show w.heap.size ≠ w.heap.size + 1; omega) _, ?_⟩
  rw [hs, ← get_put _ _ _ hm, hv]
  exact h.2.2.set_ _ _
section
set_option maxHeartbeats 1000000
set_option maxRecDepth 100000
/-- What Decode returns. -/
def decR (x : Nat) : Ins × Nat := match AS.dec x with
  | some i => (i, 0)
  | none => (Ins.zero, 3)
theorem decode_any (x : Nat) (hx : x < 4294967296) (w : World) (hF : FmtIs w) : Calls Tryd.prog 23 #[.int .u32 (x : Int)] w fun e w' => e = .returned (.tuple #[.agg (insV (decR x).1), .int .i64 ((decR x).2 : Int)]) ∧ Below w.heap.size w w' := by
  have hb1 : Below w.heap.size w ((w.alloc (.cells (insV Ins.zero) 48)).alloc (.cells (insV { Ins.zero with op := x / 67108864 }) 48)) := ((Below.refl _ _).alloc (Nat.le_refl _) _).alloc (by simp) _
  have hk1 := (Blk.new w 48 (insV Ins.zero)).alloc (.cells (insV { Ins.zero with op := x / 67108864 }) 48)
  have hk2 := blk_second w 48 48 (insV Ins.zero) (insV { Ins.zero with op := x / 67108864 })
  have HST := Lib.hid (show DecRel w x 0 _ from ⟨hb1, hk1, hk2⟩)
  have HFB := Lib.hid (fun (w' : World) (h : Below w.heap.size w w') => hF.below h)
  have e26 : (x : Int) / 67108864 % 256 = ((x / 67108864 : Nat) : Int) := by omega
  have hop : x / 67108864 ≤ 63 := by omega
  have HX := Lib.hid hx
  generalize hO : x / 67108864 = op at *
  have HO := Lib.hid hO
  clear hb1 hk1 hk2 hF hO hx
  have hz1 : ∀ (wr : World) (k : Nat), DecRel w x k wr → ∀ m, m ≤ 4 → wr.cell? ⟨w.heap.size + 1, m, none⟩ = (insV (AS.decAt x k))[m]? := fun wr k h m _ => h.2.2.cell m
  by_cases h30 : 30 ≤ op
  · have p1 : (30 : Int) ≤ (op : Int) := by omega
    have e1 : decide ((30 : Int) ≤ (op : Int)) = true := by simp; omega
    have hd : decR x = (Ins.zero, 3) := by unfold decR AS.dec; rw [HO.out, if_pos h30]
    rw [hd]
    have HB := Lib.hid HST.out.1
    go_enter Tryd.func23, Tryd.ntmps23
    go_wp2_with fail
    refine bodyPost_ret (ins2_result (i := Ins.zero) rfl rfl HST.out.2.1) rfl ?_
    exact ⟨rfl, HST.out.1⟩
  · have h30' : op < 30 := by omega
    have p2 : (op : Int) < 30 := by omega
    have e1 : decide ((30 : Int) ≤ (op : Int)) = false := by simp; omega
    have hf3 : ∀ o1 o2 : Obj, ((w.alloc o1).alloc o2).cell? ⟨0, op * 6 + 1, none⟩ = some (.string ⟨(AS.opers op).toArray⟩) := fun o1 o2 =>
      (HFB.out _ (((Below.refl _ _).alloc (Nat.le_refl _) o1).alloc (by simp) o2)).cell op 1 h30' (by decide)
    go_enter Tryd.func23, Tryd.ntmps23
    go_wp2_with fail
    have hsz := opers_len op
    have hat := opers_at op
    have hle := AS.shape_le op
    generalize hD : (⟨(AS.opers op).toArray⟩ : ByteArray) = D at *
    have HSZ := Lib.hid hsz
    have HAT := Lib.hid hat
    have HLE := Lib.hid hle
    have hsh : (AS.shape op).length ≤ 3 := AS.shape_len op
    have hds : D.size ≤ 3 := by omega
    have hlt := (Blk.lt HST.out.2.2)
    clear hsz hat hle hD hf3 hlt
    go_loopw [27] (fun v wr => ∃ k : Nat, k ≤ D.size ∧ v = .int .i64 (k : Int) ∧ DecRel w x k wr) (fun v _ => D.size - (intOf v).toNat)
    case atStart => exact ⟨0, by omega, rfl, HST.out⟩
    case round =>
      obtain ⟨k, hk, rfl, hrel⟩ := hrel
      have HR := Lib.hid hrel
      by_cases hlt : k < D.size
      · have hlt' : k < (AS.shape op).length := by rw [← HSZ.out]; exact hlt
        have hL := HAT.out k hlt'
        have q1 : (k : Int) < (D.size : Int) := by omega
        have q2 : k < (AS.opers op).length := by simp [AS.opers]; exact hlt'
        have hk3 : (AS.shape op)[k] ≤ 3 := HLE.out _ (List.getElem_mem hlt')
        have hsu := decAt_succ x k (by rw [HO.out]; exact hlt')
        simp only [HO.out] at hsu
        have HSU := Lib.hid hsu
        clear hsu hrel
        generalize (AS.shape op)[k] = m at *
        obtain ⟨lo, sz, hpo, hcs⟩ : ∃ lo sz : Int, (∀ W, Calls Tryd.prog 38 #[.int .u8 ((AS.letter m).toNat : Int)] W fun e w' => e = .returned (.tuple #[.int .i64 lo, .int .i64 sz]) ∧ W = w') ∧ ((m = 0 ∧ lo = 22 ∧ sz = 4) ∨ (m = 1 ∧ lo = 18 ∧ sz = 4) ∨ (m = 2 ∧ lo = 14 ∧ sz = 4) ∨ (m = 3 ∧ lo = 0 ∧ sz = 18)) := by
          refine ⟨_, _, fun W => position_any m hk3 W, ?_⟩
          have : m = 0 ∨ m = 1 ∨ m = 2 ∨ m = 3 := by omega
          rcases this with rfl | rfl | rfl | rfl <;> simp [posn]
        have HPO := Lib.hid hpo
        have a0 := mask_nat x 4194304 4 HX.out (by decide)
        have a1 := mask_nat x 262144 4 HX.out (by decide)
        have a2 := mask_nat x 16384 4 HX.out (by decide)
        have a3 := mask_nat x 1 18 HX.out (by decide)
        simp only [Nat.reducePow, Nat.reduceSub, Int.cast_ofNat_Int, Int.ediv_one, Nat.div_one] at a0 a1 a2 a3
        clear hpo
        rcases hcs with ⟨rfl, rfl, rfl⟩ | ⟨rfl, rfl, rfl⟩ | ⟨rfl, rfl, rfl⟩ | ⟨rfl, rfl, rfl⟩
        · go_wp2_with fail
          refine (HPO.out _).mono ?_
          rintro e w3 ⟨rfl, rfl⟩
          go_wp2_with fail
          go_region
          all_goals
            go_wp2_with fail
            refine (field_any (w.heap.size + 1) 0 (by omega) _).mono ?_
            rintro e w4 ⟨rfl, rfl⟩
            have c0 : ∃ u, wr.cell? ⟨w.heap.size + 1, 1, none⟩ = some u := ⟨_, HR.out.2.2.cell 1⟩
            obtain ⟨u0, c0⟩ := c0
            have c1 := HR.out.2.2.frozen 1
            go_wp2_with fail
            exact ⟨⟨k + 1, by omega, by simp, (HR.out.drewN 1).step HSU.out (by omega) (getF_reg x 0 (by omega))⟩, by simp [intOf]; omega⟩
        · go_wp2_with fail
          refine (HPO.out _).mono ?_
          rintro e w3 ⟨rfl, rfl⟩
          go_wp2_with fail
          go_region
          all_goals
            go_wp2_with fail
            refine (field_any (w.heap.size + 1) 1 (by omega) _).mono ?_
            rintro e w4 ⟨rfl, rfl⟩
            have c0 : ∃ u, wr.cell? ⟨w.heap.size + 1, 2, none⟩ = some u := ⟨_, HR.out.2.2.cell 2⟩
            obtain ⟨u0, c0⟩ := c0
            have c1 := HR.out.2.2.frozen 2
            go_wp2_with fail
            exact ⟨⟨k + 1, by omega, by simp, (HR.out.drewN 1).step HSU.out (by omega) (getF_reg x 1 (by omega))⟩, by simp [intOf]; omega⟩
        · go_wp2_with fail
          refine (HPO.out _).mono ?_
          rintro e w3 ⟨rfl, rfl⟩
          go_wp2_with fail
          go_region
          all_goals
            go_wp2_with fail
            refine (field_any (w.heap.size + 1) 2 (by omega) _).mono ?_
            rintro e w4 ⟨rfl, rfl⟩
            have c0 : ∃ u, wr.cell? ⟨w.heap.size + 1, 3, none⟩ = some u := ⟨_, HR.out.2.2.cell 3⟩
            obtain ⟨u0, c0⟩ := c0
            have c1 := HR.out.2.2.frozen 3
            go_wp2_with fail
            exact ⟨⟨k + 1, by omega, by simp, (HR.out.drewN 1).step HSU.out (by omega) (getF_reg x 2 (by omega))⟩, by simp [intOf]; omega⟩
        · have hg := getF_imm x
          by_cases hb : 131072 ≤ x % 262144
          · have HG := Lib.hid (show AS.getF x 3 = (x : Int) % 262144 - 262144 by rw [hg, if_pos hb]; omega)
            have b1 : (131072 : Int) ≤ (x : Int) % 262144 := by omega
            have b2 : decide ((131072 : Int) ≤ (x : Int) % 262144) = true := by simp; omega
            clear hg
            go_wp2_with fail
            refine (HPO.out _).mono ?_
            rintro e w3 ⟨rfl, rfl⟩
            go_wp2_with fail
            go_region
            all_goals
              go_wp2_with fail
              refine (field_any (w.heap.size + 1) 3 (by omega) _).mono ?_
              rintro e w4 ⟨rfl, rfl⟩
              have c0 : ∃ u, wr.cell? ⟨w.heap.size + 1, 4, none⟩ = some u := ⟨_, HR.out.2.2.cell 4⟩
              obtain ⟨u0, c0⟩ := c0
              have c1 := HR.out.2.2.frozen 4
              go_wp2_with fail
              exact ⟨⟨k + 1, by omega, by simp, (HR.out.drewN 1).step HSU.out (by omega) HG.out⟩, by simp [intOf]; omega⟩
          · have HG := Lib.hid (show AS.getF x 3 = (x : Int) % 262144 by rw [hg, if_neg hb]; omega)
            have b1 : (x : Int) % 262144 < 131072 := by omega
            have hnn : (0 : Int) ≤ (x : Int) % 262144 := by omega
            clear hg
            rw [show ((x % 262144 : Nat) : Int) = (x : Int) % 262144 from by omega] at a3
            generalize (x : Int) % 262144 = V at *
            have b2 : decide ((131072 : Int) ≤ V) = false := by simp; omega
            have b3 : ¬ (131072 : Int) ≤ V := by omega
            clear b1
            go_wp2_with fail
            refine (HPO.out _).mono ?_
            rintro e w3 ⟨rfl, rfl⟩
            go_wp2_with fail
            go_region
            all_goals
              go_wp2_with fail
              refine (field_any (w.heap.size + 1) 3 (by omega) _).mono ?_
              rintro e w4 ⟨rfl, rfl⟩
              have c0 : ∃ u, wr.cell? ⟨w.heap.size + 1, 4, none⟩ = some u := ⟨_, HR.out.2.2.cell 4⟩
              obtain ⟨u0, c0⟩ := c0
              have c1 := HR.out.2.2.frozen 4
              go_wp2_with fail
              exact ⟨⟨k + 1, by omega, by simp, (HR.out.drewN 1).step HSU.out (by omega) HG.out⟩, by simp [intOf]; omega⟩
      · have hkk : k = (AS.shape op).length := by have := HSZ.out; omega
        have q2 : ¬ k < (AS.opers op).length := by simp [AS.opers]; omega
        have hI : AS.decAt x k = AS.decI x := by unfold AS.decI; rw [HO.out, hkk]
        unfold DecRel at hrel
        rw [hI] at hrel
        have HR' := Lib.hid (show Below w.heap.size w wr ∧ Blk wr w.heap.size 48 (insV Ins.zero) ∧ Blk wr (w.heap.size + 1) 48 (insV (AS.decI x)) from hrel)
        have hopI : (AS.decI x).op = op := by unfold AS.decI; rw [decAt_op, HO.out]
        have HEN := Lib.hid (encode_any (AS.decI x) (by rw [hopI]; omega) wr (HFB.out _ HR'.out.1))
        obtain ⟨i0, i1, i2, i3, i4⟩ := HR'.out.2.2.five
        have HD := Lib.hid (show decR x = if AS.valid (AS.decI x) = true ∧ AS.enc (AS.decI x) = x then (AS.decI x, 0) else (Ins.zero, 3) by
          unfold decR AS.dec
          rw [HO.out, if_neg (by omega)]
          by_cases h : AS.valid (AS.decI x) = true ∧ AS.enc (AS.decI x) = x
          · rw [if_pos h, if_pos h]
          · rw [if_neg h, if_neg h])
        have HLE2 := Lib.hid (fun h => AS.enc_lt (AS.decI x) h)
        clear hrel HR hI hkk hopI
        have hsz2 := Blk.lt HR'.out.2.2
        cases hv : AS.valid (AS.decI x) with
        | true =>
          have hr : encR (AS.decI x) = (AS.enc (AS.decI x), 0) := by unfold encR; rw [hv]; rfl
          rw [hr] at HEN
          by_cases hw : AS.enc (AS.decI x) = x
          · rw [hw] at HEN
            have hd := HD.out.trans (if_pos ⟨hv, hw⟩)
            have f1 : ((x : Int) != (x : Int)) = false := by simp
            go_wp2_with fail
            refine HEN.out.mono ?_
            rintro e w4 ⟨rfl, hb4⟩
            have HB4 := Lib.hid (HR'.out.1.trans (hb4.mono HR'.out.1.size))
            have HBR := Lib.hid (HR'.out.2.1.below hb4)
            have HBI := Lib.hid (HR'.out.2.2.below hb4)
            obtain ⟨j0, j1, j2, j3, j4⟩ := HBI.out.five
            obtain ⟨r0, r1, r2, r3, r4⟩ := HBR.out.five
            have g0 := HBR.out.frozen 0
            have g1 := HBR.out.frozen 1
            have g2 := HBR.out.frozen 2
            have g3 := HBR.out.frozen 3
            have g4 := HBR.out.frozen 4
            have HQ := Lib.hid (fun v0 v1 v2 v3 v4 => (show Blk (((((w4.setCell ⟨w.heap.size, 0, none⟩ v0).setCell ⟨w.heap.size, 1, none⟩ v1).setCell ⟨w.heap.size, 2, none⟩ v2).setCell ⟨w.heap.size, 3, none⟩ v3).setCell ⟨w.heap.size, 4, none⟩ v4) w.heap.size 48 #[v0, v1, v2, v3, v4] from ((((HBR.out.set_ 0 v0).set_ 1 v1).set_ 2 v2).set_ 3 v3).set_ 4 v4))
            have HQB := Lib.hid (fun v0 v1 v2 v3 v4 => ((((HB4.out.setCell (p := ⟨w.heap.size, 0, none⟩) (Nat.le_refl _) v0).setCell (p := ⟨w.heap.size, 1, none⟩) (Nat.le_refl _) v1).setCell (p := ⟨w.heap.size, 2, none⟩) (Nat.le_refl _) v2).setCell (p := ⟨w.heap.size, 3, none⟩) (Nat.le_refl _) v3).setCell (p := ⟨w.heap.size, 4, none⟩) (Nat.le_refl _) v4)
            have HDD := Lib.hid hd
            clear hb4 i0 i1 i2 i3 i4 hd
            go_wp2_with fail
            refine bodyPost_ret (ins2_result (i := AS.decI x) rfl rfl (HQ.out _ _ _ _ _)) rfl ?_
            rw [HDD.out]
            exact ⟨rfl, HQB.out _ _ _ _ _⟩
          · have hd := HD.out.trans (if_neg (fun h => hw h.2))
            have f1 : (((AS.enc (AS.decI x) : Nat) : Int) != (x : Int)) = true := by simp; omega
            have HDD := Lib.hid hd
            clear hd
            go_wp2_with fail
            refine HEN.out.mono ?_
            rintro e w4 ⟨rfl, hb4⟩
            have HB4 := Lib.hid (HR'.out.1.trans (hb4.mono HR'.out.1.size))
            have HBR := Lib.hid (HR'.out.2.1.below hb4)
            obtain ⟨r0, r1, r2, r3, r4⟩ := HBR.out.five
            have g0 := HBR.out.frozen 0
            have g1 := HBR.out.frozen 1
            have g2 := HBR.out.frozen 2
            have g3 := HBR.out.frozen 3
            have g4 := HBR.out.frozen 4
            have HQ := Lib.hid (fun v0 v1 v2 v3 v4 => (show Blk (((((w4.setCell ⟨w.heap.size, 0, none⟩ v0).setCell ⟨w.heap.size, 1, none⟩ v1).setCell ⟨w.heap.size, 2, none⟩ v2).setCell ⟨w.heap.size, 3, none⟩ v3).setCell ⟨w.heap.size, 4, none⟩ v4) w.heap.size 48 #[v0, v1, v2, v3, v4] from ((((HBR.out.set_ 0 v0).set_ 1 v1).set_ 2 v2).set_ 3 v3).set_ 4 v4))
            have HQB := Lib.hid (fun v0 v1 v2 v3 v4 => ((((HB4.out.setCell (p := ⟨w.heap.size, 0, none⟩) (Nat.le_refl _) v0).setCell (p := ⟨w.heap.size, 1, none⟩) (Nat.le_refl _) v1).setCell (p := ⟨w.heap.size, 2, none⟩) (Nat.le_refl _) v2).setCell (p := ⟨w.heap.size, 3, none⟩) (Nat.le_refl _) v3).setCell (p := ⟨w.heap.size, 4, none⟩) (Nat.le_refl _) v4)
            clear hb4 i0 i1 i2 i3 i4
            go_wp2_with fail
            refine bodyPost_ret (ins2_result (i := Ins.zero) rfl rfl (HQ.out _ _ _ _ _)) rfl ?_
            rw [HDD.out]
            exact ⟨rfl, HQB.out _ _ _ _ _⟩
        | false =>
          have hr : encR (AS.decI x) = (0, 3) := by unfold encR; rw [hv]; rfl
          rw [hr] at HEN
          have hd := HD.out.trans (if_neg (fun h => by rw [hv] at h; exact absurd h.1 (by simp)))
          have HDD := Lib.hid hd
          clear hd
          go_wp2_with fail
          refine HEN.out.mono ?_
          rintro e w4 ⟨rfl, hb4⟩
          have HB4 := Lib.hid (HR'.out.1.trans (hb4.mono HR'.out.1.size))
          have HBR := Lib.hid (HR'.out.2.1.below hb4)
          obtain ⟨r0, r1, r2, r3, r4⟩ := HBR.out.five
          have g0 := HBR.out.frozen 0
          have g1 := HBR.out.frozen 1
          have g2 := HBR.out.frozen 2
          have g3 := HBR.out.frozen 3
          have g4 := HBR.out.frozen 4
          have HQ := Lib.hid (fun v0 v1 v2 v3 v4 => (show Blk (((((w4.setCell ⟨w.heap.size, 0, none⟩ v0).setCell ⟨w.heap.size, 1, none⟩ v1).setCell ⟨w.heap.size, 2, none⟩ v2).setCell ⟨w.heap.size, 3, none⟩ v3).setCell ⟨w.heap.size, 4, none⟩ v4) w.heap.size 48 #[v0, v1, v2, v3, v4] from ((((HBR.out.set_ 0 v0).set_ 1 v1).set_ 2 v2).set_ 3 v3).set_ 4 v4))
          have HQB := Lib.hid (fun v0 v1 v2 v3 v4 => ((((HB4.out.setCell (p := ⟨w.heap.size, 0, none⟩) (Nat.le_refl _) v0).setCell (p := ⟨w.heap.size, 1, none⟩) (Nat.le_refl _) v1).setCell (p := ⟨w.heap.size, 2, none⟩) (Nat.le_refl _) v2).setCell (p := ⟨w.heap.size, 3, none⟩) (Nat.le_refl _) v3).setCell (p := ⟨w.heap.size, 4, none⟩) (Nat.le_refl _) v4)
          clear hb4 i0 i1 i2 i3 i4
          go_wp2_with fail
          refine bodyPost_ret (ins2_result (i := Ins.zero) rfl rfl (HQ.out _ _ _ _ _)) rfl ?_
          rw [HDD.out]
          exact ⟨rfl, HQB.out _ _ _ _ _⟩
end
end Go.Proofs.YtgeagpplihecmaaDoor
