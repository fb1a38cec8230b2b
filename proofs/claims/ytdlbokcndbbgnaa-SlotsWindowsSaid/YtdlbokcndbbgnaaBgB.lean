/- Numbers as digits in memory: sums. -/
import Derived.Test.YtdlbokcndbbgnaaBgA
import Derived.Test.YtdlbokcndbbgnaaSlF
namespace Go.Proofs.Ytdlbokcndbbgnaa
open Go.RowKit Go.Maps
open BG (val dig)
def dgC (ds : List Nat) : Array Value := (dgL ds).toArray
theorem dgC_set (ds : List Nat) (i d : Nat) : (dgC ds).setIfInBounds i (.int .u32 (d : Int)) = dgC (ds.set i d) := by
  unfold dgC dgL
  rw [List.setIfInBounds_toArray, List.map_set]
theorem dgC_cell {W : World} {g : Nat} {ds : List Nat} (h : Blk W g 104 (dgC ds)) {k d : Nat} (hk : ds[k]? = some d) : W.cell? ⟨g, k, none⟩ = some (.int .u32 (d : Int)) := by
  rw [h.cell, dgC, List.getElem?_toArray, dgL_at hk]
theorem dgC_put {W : World} {g : Nat} {ds : List Nat} (h : Blk W g 104 (dgC ds)) (i d : Nat) : Blk (W.setCell ⟨g, i, none⟩ (.int .u32 (d : Int))) g 104 (dgC (ds.set i d)) := by
  have := h.set_ i (.int .u32 (d : Int))
  rw [dgC_set] at this
  exact this
theorem dgC_row {W : World} {g : Nat} {ds : List Nat} (h : Blk W g 104 (dgC ds)) : DG W (some ⟨g, 0, none⟩) ds := fun _ =>
  ⟨g, 0, _, _, rfl, h, fun i d hi => by rw [Nat.zero_add, dgC, List.getElem?_toArray, dgL_at hi]⟩
theorem dgC_made (n : Nat) : madeCells #[.int .u32 0] n = dgC (List.replicate n 0) := by
  have h := made_flat [.int .u32 0] 1 rfl n
  rw [Nat.mul_one] at h
  rw [show (#[.int .u32 0] : Array Value) = [Value.int .u32 0].toArray from rfl, h]
  unfold dgC dgL
  congr 1
  clear h
  induction n with
  | zero => rfl
  | succ n ih => rw [List.replicate_succ, List.replicate_succ, List.flatMap_cons, List.map_cons, ← ih]; rfl
theorem infoU32 : (Try.prog.info? 104).map (fun i => (i.zero, i.size, i.bytes)) = some (some (.int .u32 0), 1, 4) := by kernel_rfl
theorem make_u32 (n : Nat) (hn : n ≤ 1000000) (W : World) : (Instr.makeSlice 48 (.int .i64 (n : Int)) (.int .i64 (n : Int))).run Try.prog W = .ok (.slice (some ⟨W.heap.size, 0, none⟩) n n) (W.alloc (.cells (dgC (List.replicate n 0)) 104)) := by
  obtain ⟨i1, ki, kz0, kz1, kz2⟩ := info_parts infoU32
  have h := run_make (P := Try.prog) W 48 104 i1 _ Try.underlying48 ki kz0 .i64 .i64 (n : Int) (n : Int) (by omega) (by omega) (by rw [kz2]; omega) (by omega)
  rw [kz1] at h
  rw [← dgC_made]
  rw [Nat.mul_one] at h
  exact h

theorem val_step {ds : List Nat} {i n : Nat} (hN : ds.length = n) : val (ds.take (i + 1)) = val (ds.take i) + BG.B ^ i * (ds[i]?.getD 0) := by
  by_cases h : i < ds.length
  · rw [BG.val_take_succ (List.getElem?_eq_getElem h), List.getElem?_eq_getElem h]; rfl
  · rw [List.getElem?_eq_none (by omega), List.take_of_length_le (by omega), List.take_of_length_le (by omega)]
    simp
theorem ok_set {ds : List Nat} (h : BG.ok ds) {i d : Nat} (hd : d < BG.B) : BG.ok (ds.set i d) := fun e he => by
  rcases List.mem_or_eq_of_mem_set he with he | rfl
  · exact h e he
  · exact hd
theorem val_set {ds : List Nat} {i d : Nat} (hi : i < ds.length) : val ((ds.set i d).take (i + 1)) = val (ds.take i) + BG.B ^ i * d := by
  rw [BG.val_take_succ (i := i) (d := d) (by rw [List.getElem?_set_self hi])]
  congr 1
  rw [List.take_set_of_le (Nat.le_refl _)]
section
set_option maxHeartbeats 4000000
set_option maxRecDepth 100000
theorem sum_ge (x y : Nat) (A A' : Option Addr) (n c n' c' : Nat) (w : World) (hN : (dig x).length = n) (hN' : (dig y).length = n') (hr : DG w A (dig x)) (hr' : DG w A' (dig y)) (hl : n ≤ 100000) (hl' : n' ≤ 100000) (hlt : ¬ n < n') :
    Calls Try.prog 52 #[.slice A n c, .slice A' n' c'] w fun e w' => ∃ A'' c'', e = .returned (.slice A'' (dig (x + y)).length c'') ∧ DG w' A'' (dig (x + y)) ∧ (dig (x + y)).length ≤ c'' ∧ Below w.heap.size w w' := by
  have _ := hl
  have _ := hl'
  have HR := Lib.hid hr
  have HR' := Lib.hid hr'
  have HN := Lib.hid hN
  have HN' := Lib.hid hN'
  have hmk : ∀ W : World, (Instr.makeSlice 48 (.int .i64 ((n : Int) + 1)) (.int .i64 ((n : Int) + 1))).run Try.prog W = .ok (.slice (some ⟨W.heap.size, 0, none⟩) (n + 1) (n + 1)) (W.alloc (.cells (dgC (List.replicate (n + 1) 0)) 104)) := fun W => make_u32 (n + 1) (by omega) W
  have z0 : IntKind.i64.wrap ((n : Int) + 1) = (n : Int) + 1 := IntWalk.i64_in _ (by omega)
  have HXY := Lib.hid (show x + y = x + y by omega)
  have hB : BG.B = 4294967296 := rfl
  have HK0 := Lib.hid (Blk.new w 104 (dgC (List.replicate (n + 1) 0)))
  have HB0 := Lib.hid ((Below.refl w.heap.size w).alloc (Nat.le_refl _) (.cells (dgC (List.replicate (n + 1) 0)) 104))
  clear hr hr' hN hN'
  go_enter Try.func52, Try.ntmps52
  go_wp2_with fail
  go_loopw [6, 22] (fun cv v wr => ∃ (i cy : Nat) (rs : List Nat), i ≤ n ∧ v = .int .i64 (i : Int) ∧ cv = .int .u64 (cy : Int) ∧ cy ≤ 1 ∧ rs.length = n + 1 ∧ BG.ok rs ∧ val (rs.take i) + BG.B ^ i * cy = val ((dig x).take i) + val ((dig y).take i) ∧ Blk wr w.heap.size 104 (dgC rs) ∧ Below w.heap.size w wr) (fun _ v _ => n - (intOf v).toNat)
  case atStart => exact ⟨0, 0, List.replicate (n + 1) 0, Nat.zero_le _, rfl, rfl, by omega, by simp, fun d hd => by rw [(List.mem_replicate.1 hd).2]; decide, by simp [val], HK0.out, HB0.out⟩
  case round =>
    obtain ⟨i, cy, rs, hi, rfl, rfl, hcy, hrl, hok, hval, hblk, hbel⟩ := hrel
    have HK := Lib.hid hblk
    have HB := Lib.hid hbel
    have HV := Lib.hid hval
    have HRL := Lib.hid hrl
    have HOK := Lib.hid hok
    have hbl := hblk.lt
    by_cases hin : i < n
    · have q1 : (i : Int) < (n : Int) := by omega
      obtain ⟨a, ha⟩ : ∃ a, (dig x)[i]? = some a := ⟨_, List.getElem?_eq_getElem (by rw [HN.out]; omega)⟩
      have haB := BG.ok_at (BG.ok_dig x) ha
      rw [hB] at haB
      obtain ⟨g, o, rfl, hg, c0⟩ := dg_at (HR.out.below hbel) ha
      have HA := Lib.hid ha
      have f0 := hblk.frozen i
      obtain ⟨r0, hr0⟩ : ∃ r0, rs[i]? = some r0 := ⟨_, List.getElem?_eq_getElem (by rw [hrl]; omega)⟩
      have k0 := dgC_cell hblk hr0
      have q2 : (i : Int) < ((n + 1 : Nat) : Int) := by omega
      have z1 : IntKind.u64.wrap ((a : Int) + (cy : Int)) = ((a + cy : Nat) : Int) := by rw [show (a : Int) + (cy : Int) = ((a + cy : Nat) : Int) by omega]; exact IntWalk.u64_in _ (by omega)
      have z2 : IntKind.i64.wrap ((i : Int) + 1) = (i : Int) + 1 := IntWalk.i64_in _ (by omega)
      clear hblk hbel hval hrl hok ha hr0
      by_cases hin2 : i < n'
      · have q3 : (i : Int) < (n' : Int) := by omega
        obtain ⟨b, hb⟩ : ∃ b, (dig y)[i]? = some b := ⟨_, List.getElem?_eq_getElem (by rw [HN'.out]; omega)⟩
        have hbB := BG.ok_at (BG.ok_dig y) hb
        rw [hB] at hbB
        obtain ⟨g', o', rfl, hg', c0'⟩ := dg_at (HR'.out.below HB.out) hb
        have HBB := Lib.hid hb
        have z3 : IntKind.u64.wrap (((a + cy : Nat) : Int) + (b : Int)) = ((a + cy + b : Nat) : Int) := by rw [show ((a + cy : Nat) : Int) + (b : Int) = ((a + cy + b : Nat) : Int) by omega]; exact IntWalk.u64_in _ (by omega)
        have hm : ((a : Int) + (cy : Int) + (b : Int)) % 4294967296 = (((a + cy + b) % BG.B : Nat) : Int) := by rw [hB]; omega
        have HM := Lib.hid hm
        clear hb hm
        go_wp2_with fail
        rw [HM.out]
        refine ⟨⟨i + 1, (a + cy + b) / BG.B, rs.set i ((a + cy + b) % BG.B), hin, by simp, by rw [hB]; simp, by rw [hB]; omega, by rw [List.length_set]; exact HRL.out, ok_set HOK.out (Nat.mod_lt _ BG.B_pos), ?_, dgC_put HK.out _ _, HB.out.setCell (p := ⟨w.heap.size, i, none⟩) (Nat.le_refl _) _⟩, by simp [intOf]; omega⟩
        rw [val_set (by rw [HRL.out]; omega), BG.val_take_succ HA.out, BG.val_take_succ HBB.out, Nat.pow_succ]
        exact BG.step_add HV.out rfl rfl
      · have q3 : ¬ (i : Int) < (n' : Int) := by omega
        have hm : ((a : Int) + (cy : Int)) % 4294967296 = (((a + cy) % BG.B : Nat) : Int) := by rw [hB]; omega
        have HM := Lib.hid hm
        clear hm
        go_wp2_with fail
        rw [HM.out]
        refine ⟨⟨i + 1, (a + cy) / BG.B, rs.set i ((a + cy) % BG.B), hin, by simp, by rw [hB]; simp, by rw [hB]; omega, by rw [List.length_set]; exact HRL.out, ok_set HOK.out (Nat.mod_lt _ BG.B_pos), ?_, dgC_put HK.out _ _, HB.out.setCell (p := ⟨w.heap.size, i, none⟩) (Nat.le_refl _) _⟩, by simp [intOf]; omega⟩
        have hy : (dig y).take (i + 1) = (dig y).take i := by rw [BG.val_take_end (by rw [HN'.out]; omega), BG.val_take_end (by rw [HN'.out]; omega)]
        rw [val_set (by rw [HRL.out]; omega), BG.val_take_succ HA.out, hy, Nat.pow_succ]
        have := BG.step_add (x := a) (y := 0) (q := BG.B ^ i) HV.out (Nat.add_zero (a + cy)) rfl
        rw [Nat.mul_zero, Nat.add_zero] at this
        exact this
    · have q1 : ¬ (i : Int) < (n : Int) := by omega
      have hie : i = n := by omega
      subst hie
      obtain ⟨r0, hr0⟩ : ∃ r0, rs[i]? = some r0 := ⟨_, List.getElem?_eq_getElem (by rw [hrl]; omega)⟩
      have k0 := dgC_cell hblk hr0
      have f0 := hblk.frozen i
      have q2 : (i : Int) < ((i + 1 : Nat) : Int) := by omega
      have z4 : (cy : Int) % 4294967296 = (cy : Int) := by omega
      have HVS := Lib.hid (show val (rs.set i cy) = x + y by
        have h1 := val_set (ds := rs) (i := i) (d := cy) (by rw [hrl]; omega)
        rw [BG.val_take_end (by rw [List.length_set, hrl]; exact Nat.le_refl _)] at h1
        rw [h1, hval, BG.val_take_end (by rw [HN.out]; exact Nat.le_refl _), BG.val_take_end (by rw [HN'.out]; omega), BG.val_dig, BG.val_dig]
        all_goals exact HXY.out)
      have HT := Lib.hid (trim_any (rs.set i cy) (some ⟨w.heap.size, 0, none⟩) (i + 1) (i + 1) (wr.setCell ⟨w.heap.size, i, none⟩ (.int .u32 (cy : Int))) (by rw [List.length_set]; exact hrl) (dgC_row (dgC_put hblk i cy)) (ok_set hok (by rw [hB]; omega)) (by omega) (Nat.le_refl _))
      have HBE := Lib.hid (hbel.setCell (p := ⟨w.heap.size, i, none⟩) (Nat.le_refl _) (.int .u32 (cy : Int)))
      have HRW := Lib.hid (dgC_row (dgC_put hblk i cy))
      clear hblk hbel hval hrl hok hr0
      go_wp2_with fail
      refine HT.out.mono ?_
      rintro e w2 ⟨A2, c2, rfl, hr2, hc2, rfl⟩
      rw [HVS.out] at hr2 hc2 ⊢
      have HR2 := Lib.hid (hr2 _ HRW.out)
      have HC2 := Lib.hid hc2
      clear hr2 hc2 HT
      go_wp2_with fail
      go_ret
      exact ⟨A2, c2, rfl, HR2.out, HC2.out, HBE.out⟩
theorem sum_lt (x y : Nat) (A A' : Option Addr) (n c n' c' : Nat) (w : World) (hN : (dig x).length = n) (hN' : (dig y).length = n') (hr : DG w A (dig x)) (hr' : DG w A' (dig y)) (hl : n ≤ 100000) (hl' : n' ≤ 100000) (hlt : n < n') :
    Calls Try.prog 52 #[.slice A n c, .slice A' n' c'] w fun e w' => ∃ A'' c'', e = .returned (.slice A'' (dig (x + y)).length c'') ∧ DG w' A'' (dig (x + y)) ∧ (dig (x + y)).length ≤ c'' ∧ Below w.heap.size w w' := by
  have _ := hl
  have _ := hl'
  have HR := Lib.hid hr'
  have HR' := Lib.hid hr
  have HN := Lib.hid hN'
  have HN' := Lib.hid hN
  have hmk : ∀ W : World, (Instr.makeSlice 48 (.int .i64 ((n' : Int) + 1)) (.int .i64 ((n' : Int) + 1))).run Try.prog W = .ok (.slice (some ⟨W.heap.size, 0, none⟩) (n' + 1) (n' + 1)) (W.alloc (.cells (dgC (List.replicate (n' + 1) 0)) 104)) := fun W => make_u32 (n' + 1) (by omega) W
  have z0 : IntKind.i64.wrap ((n' : Int) + 1) = (n' : Int) + 1 := IntWalk.i64_in _ (by omega)
  have HXY := Lib.hid (show y + x = x + y by omega)
  have hB : BG.B = 4294967296 := rfl
  have HK0 := Lib.hid (Blk.new w 104 (dgC (List.replicate (n' + 1) 0)))
  have HB0 := Lib.hid ((Below.refl w.heap.size w).alloc (Nat.le_refl _) (.cells (dgC (List.replicate (n' + 1) 0)) 104))
  clear hr hr' hN hN'
  go_enter Try.func52, Try.ntmps52
  go_wp2_with fail
  go_loopw [6, 22] (fun cv v wr => ∃ (i cy : Nat) (rs : List Nat), i ≤ n' ∧ v = .int .i64 (i : Int) ∧ cv = .int .u64 (cy : Int) ∧ cy ≤ 1 ∧ rs.length = n' + 1 ∧ BG.ok rs ∧ val (rs.take i) + BG.B ^ i * cy = val ((dig y).take i) + val ((dig x).take i) ∧ Blk wr w.heap.size 104 (dgC rs) ∧ Below w.heap.size w wr) (fun _ v _ => n' - (intOf v).toNat)
  case atStart => exact ⟨0, 0, List.replicate (n' + 1) 0, Nat.zero_le _, rfl, rfl, by omega, by simp, fun d hd => by rw [(List.mem_replicate.1 hd).2]; decide, by simp [val], HK0.out, HB0.out⟩
  case round =>
    obtain ⟨i, cy, rs, hi, rfl, rfl, hcy, hrl, hok, hval, hblk, hbel⟩ := hrel
    have HK := Lib.hid hblk
    have HB := Lib.hid hbel
    have HV := Lib.hid hval
    have HRL := Lib.hid hrl
    have HOK := Lib.hid hok
    have hbl := hblk.lt
    by_cases hin : i < n'
    · have q1 : (i : Int) < (n' : Int) := by omega
      obtain ⟨a, ha⟩ : ∃ a, (dig y)[i]? = some a := ⟨_, List.getElem?_eq_getElem (by rw [HN.out]; omega)⟩
      have haB := BG.ok_at (BG.ok_dig y) ha
      rw [hB] at haB
      obtain ⟨g, o, rfl, hg, c0⟩ := dg_at (HR.out.below hbel) ha
      have HA := Lib.hid ha
      have f0 := hblk.frozen i
      obtain ⟨r0, hr0⟩ : ∃ r0, rs[i]? = some r0 := ⟨_, List.getElem?_eq_getElem (by rw [hrl]; omega)⟩
      have k0 := dgC_cell hblk hr0
      have q2 : (i : Int) < ((n' + 1 : Nat) : Int) := by omega
      have z1 : IntKind.u64.wrap ((a : Int) + (cy : Int)) = ((a + cy : Nat) : Int) := by rw [show (a : Int) + (cy : Int) = ((a + cy : Nat) : Int) by omega]; exact IntWalk.u64_in _ (by omega)
      have z2 : IntKind.i64.wrap ((i : Int) + 1) = (i : Int) + 1 := IntWalk.i64_in _ (by omega)
      clear hblk hbel hval hrl hok ha hr0
      by_cases hin2 : i < n
      · have q3 : (i : Int) < (n : Int) := by omega
        obtain ⟨b, hb⟩ : ∃ b, (dig x)[i]? = some b := ⟨_, List.getElem?_eq_getElem (by rw [HN'.out]; omega)⟩
        have hbB := BG.ok_at (BG.ok_dig x) hb
        rw [hB] at hbB
        obtain ⟨g', o', rfl, hg', c0'⟩ := dg_at (HR'.out.below HB.out) hb
        have HBB := Lib.hid hb
        have z3 : IntKind.u64.wrap (((a + cy : Nat) : Int) + (b : Int)) = ((a + cy + b : Nat) : Int) := by rw [show ((a + cy : Nat) : Int) + (b : Int) = ((a + cy + b : Nat) : Int) by omega]; exact IntWalk.u64_in _ (by omega)
        have hm : ((a : Int) + (cy : Int) + (b : Int)) % 4294967296 = (((a + cy + b) % BG.B : Nat) : Int) := by rw [hB]; omega
        have HM := Lib.hid hm
        clear hb hm
        go_wp2_with fail
        rw [HM.out]
        refine ⟨⟨i + 1, (a + cy + b) / BG.B, rs.set i ((a + cy + b) % BG.B), hin, by simp, by rw [hB]; simp, by rw [hB]; omega, by rw [List.length_set]; exact HRL.out, ok_set HOK.out (Nat.mod_lt _ BG.B_pos), ?_, dgC_put HK.out _ _, HB.out.setCell (p := ⟨w.heap.size, i, none⟩) (Nat.le_refl _) _⟩, by simp [intOf]; omega⟩
        rw [val_set (by rw [HRL.out]; omega), BG.val_take_succ HA.out, BG.val_take_succ HBB.out, Nat.pow_succ]
        exact BG.step_add HV.out rfl rfl
      · have q3 : ¬ (i : Int) < (n : Int) := by omega
        have hm : ((a : Int) + (cy : Int)) % 4294967296 = (((a + cy) % BG.B : Nat) : Int) := by rw [hB]; omega
        have HM := Lib.hid hm
        clear hm
        go_wp2_with fail
        rw [HM.out]
        refine ⟨⟨i + 1, (a + cy) / BG.B, rs.set i ((a + cy) % BG.B), hin, by simp, by rw [hB]; simp, by rw [hB]; omega, by rw [List.length_set]; exact HRL.out, ok_set HOK.out (Nat.mod_lt _ BG.B_pos), ?_, dgC_put HK.out _ _, HB.out.setCell (p := ⟨w.heap.size, i, none⟩) (Nat.le_refl _) _⟩, by simp [intOf]; omega⟩
        have hy : (dig x).take (i + 1) = (dig x).take i := by rw [BG.val_take_end (by rw [HN'.out]; omega), BG.val_take_end (by rw [HN'.out]; omega)]
        rw [val_set (by rw [HRL.out]; omega), BG.val_take_succ HA.out, hy, Nat.pow_succ]
        have := BG.step_add (x := a) (y := 0) (q := BG.B ^ i) HV.out (Nat.add_zero (a + cy)) rfl
        rw [Nat.mul_zero, Nat.add_zero] at this
        exact this
    · have q1 : ¬ (i : Int) < (n' : Int) := by omega
      have hie : i = n' := by omega
      subst hie
      obtain ⟨r0, hr0⟩ : ∃ r0, rs[i]? = some r0 := ⟨_, List.getElem?_eq_getElem (by rw [hrl]; omega)⟩
      have k0 := dgC_cell hblk hr0
      have f0 := hblk.frozen i
      have q2 : (i : Int) < ((i + 1 : Nat) : Int) := by omega
      have z4 : (cy : Int) % 4294967296 = (cy : Int) := by omega
      have HVS := Lib.hid (show val (rs.set i cy) = x + y by
        have h1 := val_set (ds := rs) (i := i) (d := cy) (by rw [hrl]; omega)
        rw [BG.val_take_end (by rw [List.length_set, hrl]; exact Nat.le_refl _)] at h1
        rw [h1, hval, BG.val_take_end (by rw [HN.out]; exact Nat.le_refl _), BG.val_take_end (by rw [HN'.out]; omega), BG.val_dig, BG.val_dig]
        all_goals exact HXY.out)
      have HT := Lib.hid (trim_any (rs.set i cy) (some ⟨w.heap.size, 0, none⟩) (i + 1) (i + 1) (wr.setCell ⟨w.heap.size, i, none⟩ (.int .u32 (cy : Int))) (by rw [List.length_set]; exact hrl) (dgC_row (dgC_put hblk i cy)) (ok_set hok (by rw [hB]; omega)) (by omega) (Nat.le_refl _))
      have HBE := Lib.hid (hbel.setCell (p := ⟨w.heap.size, i, none⟩) (Nat.le_refl _) (.int .u32 (cy : Int)))
      have HRW := Lib.hid (dgC_row (dgC_put hblk i cy))
      clear hblk hbel hval hrl hok hr0
      go_wp2_with fail
      refine HT.out.mono ?_
      rintro e w2 ⟨A2, c2, rfl, hr2, hc2, rfl⟩
      rw [HVS.out] at hr2 hc2 ⊢
      have HR2 := Lib.hid (hr2 _ HRW.out)
      have HC2 := Lib.hid hc2
      clear hr2 hc2 HT
      go_wp2_with fail
      go_ret
      exact ⟨A2, c2, rfl, HR2.out, HC2.out, HBE.out⟩
theorem sum_any (x y : Nat) (A A' : Option Addr) (n c n' c' : Nat) (w : World) (hN : (dig x).length = n) (hN' : (dig y).length = n') (hr : DG w A (dig x)) (hr' : DG w A' (dig y)) (hl : n ≤ 100000) (hl' : n' ≤ 100000) :
    Calls Try.prog 52 #[.slice A n c, .slice A' n' c'] w fun e w' => ∃ A'' c'', e = .returned (.slice A'' (dig (x + y)).length c'') ∧ DG w' A'' (dig (x + y)) ∧ (dig (x + y)).length ≤ c'' ∧ Below w.heap.size w w' := by
  by_cases h : n < n'
  · exact sum_lt x y A A' n c n' c' w hN hN' hr hr' hl hl' h
  · exact sum_ge x y A A' n c n' c' w hN hN' hr hr' hl hl' h
end
end Go.Proofs.Ytdlbokcndbbgnaa
