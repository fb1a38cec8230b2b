/- The walk of asm.parseLine. -/
import Derived.Test.YtgeagpplihecmaaDoorAsI
import Derived.Deep.RegionLaw
namespace Go.Proofs.YtgeagpplihecmaaDoor
open Go.RowKit
open AS (Ins)
theorem cf_r3 (u v : Value) (W : World) : Sem.run Tryd.prog (callFunc 48 #[u, v]) W = .ok (Next.enter 48 #[u, v]) W := by kernel_rfl
theorem cf_rr (u v x : Value) (W : World) : Sem.run Tryd.prog (callFunc 62 #[u, v, x]) W = .ok (Next.enter 62 #[u, v, x]) W := by kernel_rfl
theorem blk_ne {w : World} {g g' : Nat} {t t' : TypeId} {cs cs' : Array Value} (h : Blk w g t cs) (h' : Blk w g' t' cs') (ht : t ≠ t') : g ≠ g' := by
  rintro rfl
  unfold Blk at h h'
  rw [h] at h'
  injection h' with h'
  injection h' with _ e
  exact ht e
theorem OpsRow.set {w : World} {A : Option Addr} {ks : List Nat} (h : OpsRow w A ks) {g : Nat} {cs : Array Value} (hb : Blk w g 48 cs) (i : Nat) (u : Value) : OpsRow (w.setCell ⟨g, i, none⟩ u) A ks := by
  obtain ⟨gg, r, h1, h2⟩ := h
  refine ⟨gg, r, fun hn => ⟨(h1 hn).1, (h1 hn).2.far (p := ⟨g, i, none⟩) (blk_ne (h1 hn).2 hb (by decide)) u⟩, fun k hk hk2 => ?_⟩
  exact (h2 k hk hk2).far (p := ⟨g, i, none⟩) (blk_ne (h2 k hk hk2) hb (by decide)) u
def strRow (ws : List ByteArray) : List Value := ws.map Value.string
theorem Row.str {w : World} {A : Option Addr} {ws : List ByteArray} (h : Row w A (strRow ws)) {k : Nat} {s : ByteArray} (hk : ws[k]? = some s) : ∃ b o, A = some ⟨b, o, none⟩ ∧ b < w.heap.size ∧ w.cell? ⟨b, o + k, none⟩ = some (.string s) := by
  have hm := List.mem_of_getElem? hk
  obtain ⟨b, o, hA, hb, hc⟩ := h (fun e => by unfold strRow at e; rw [List.map_eq_nil_iff] at e; rw [e] at hm; simp at hm)
  exact ⟨b, o, hA, hb, hc k _ (by simp [strRow, hk])⟩
def bts (ws : List ByteArray) : List AS.Bytes := ws.map (·.data.toList)
def LRel (w : World) (n9 : Nat) (A : Option Addr) (ks : List Nat) (ws : List ByteArray) (i0 : Ins) (v : Value) (wr : World) : Prop :=
  ∃ j ij, j ≤ ks.length ∧ v = .int .i64 ((j : Nat) : Int) ∧ Below w.heap.size w wr ∧ Blk wr w.heap.size 48 (insV Ins.zero) ∧ Blk wr n9 48 (insV ij) ∧ OpsRow wr A ks ∧ ij.op = i0.op ∧ AS.rdAll (ks.drop j) (bts (ws.drop j)) ij = AS.rdAll ks (bts ws) i0
theorem lrel_step {w X : World} {n9 : Nat} {A : Option Addr} {ks : List Nat} {ws : List ByteArray} {i0 ij : Ins} {j k : Nat} {v : Int}
    (hX : Below w.heap.size w X) (hK : Blk X w.heap.size 48 (insV Ins.zero)) (h9 : Blk X n9 48 (insV ij)) (ho : OpsRow X A ks) (hlt : w.heap.size < n9) (hk : k ≤ 3) (hj : j + 1 ≤ ks.length) (hop : ij.op = i0.op)
    (hr : ((some v).bind fun v => AS.rdAll (ks.drop (j + 1)) (bts (ws.drop (j + 1))) (ij.put k v)) = AS.rdAll ks (bts ws) i0) : LRel w n9 A ks ws i0 (.int .i64 ((j + 1 : Nat) : Int)) (X.setCell ⟨n9, k + 1, none⟩ (.int .i64 v)) := by
  refine ⟨j + 1, ij.put k v, hj, rfl, hX.setCell (p := ⟨n9, k + 1, none⟩) (Nat.le_of_lt hlt) _, hK.far (p := ⟨n9, k + 1, none⟩) (Nat.ne_of_lt hlt) _, ?_, ho.set h9 _ _, (AS.put_op _ _ _).trans hop, hr⟩
  rw [← get_put _ _ _ hk]
  exact h9.set_ _ _
/-- What parseLine leaves. -/
def PLEnd (w : World) (o : Option Ins) (e : Ending) (w' : World) : Prop :=
  ∃ i : Ins, e = .returned (.tuple #[.agg (insV i), .bool o.isSome]) ∧ (∀ j, o = some j → i = j) ∧ Below w.heap.size w w'
theorem plend_none {w w' : World} {v : Value} (hb : Below w.heap.size w w') (hv : v = .tuple #[.agg (insV Ins.zero), .bool false]) : PLEnd w none (.returned v) w' := by
  subst hv
  exact ⟨Ins.zero, rfl, fun _ h => (by cases h), hb⟩
theorem plend_valid {w w' : World} {i : Ins} (hb : Below w.heap.size w w') : PLEnd w (if AS.valid i then some i else none) (.returned (.tuple #[.agg (insV i), .bool (AS.valid i)])) w' := by
  refine ⟨i, ?_, fun j hj => ?_, hb⟩
  · cases AS.valid i <;> rfl
  · cases hv : AS.valid i with
    | true => rw [hv] at hj; exact Option.some.inj hj
    | false => rw [hv] at hj; cases hj
theorem fail_frame {w X w5 : World} {n9 k : Nat} (hX : Below w.heap.size w X) (hK : Blk X w.heap.size 48 (insV Ins.zero)) (h9 : w.heap.size < n9) (h : w5 = X ∨ ∃ u, w5 = X.setCell ⟨n9, k, none⟩ u) : Below w.heap.size w w5 ∧ Blk w5 w.heap.size 48 (insV Ins.zero) := by
  rcases h with rfl | ⟨u, rfl⟩
  · exact ⟨hX, hK⟩
  · exact ⟨hX.setCell (p := ⟨n9, k, none⟩) (Nat.le_of_lt h9) u, hK.far (p := ⟨n9, k, none⟩) (Nat.ne_of_lt h9) u⟩
section
set_option maxHeartbeats 2000000
set_option maxRecDepth 100000
theorem parseline_any (tb : Nat) (wd : ByteArray) (ws : List ByteArray) (A : Option Addr) (n c : Nat) (w : World) (hF : FmtIs w) (hT : TabIs w tb) (hN : (wd :: ws).length = n) (hR : Row w A (strRow (wd :: ws))) (hsz : ∀ s ∈ wd :: ws, s.size ≤ maxLen) (hn : n ≤ 1000000) :
    Calls Tryd.prog 36 #[.map (some tb), .slice A n c] w (PLEnd w (AS.rdLine wd.data.toList (bts ws))) := by
  have hnot : ∀ (x : Bool) (w : World), (Op.unary .not (.bool x)).run Tryd.prog w = .ok (.bool (!x)) w := fun _ _ => rfl
  have hb0 : Below w.heap.size w (w.alloc (.cells #[.int .u8 0, .int .i64 0, .int .i64 0, .int .i64 0, .int .i64 0] 48)) := (Below.refl _ _).alloc (Nat.le_refl _) _
  have hT1 : TabIs (w.alloc (.cells #[.int .u8 0, .int .i64 0, .int .i64 0, .int .i64 0, .int .i64 0] 48)) tb := World.ownsMap.alloc hT _
  have hlk := tab_look hT1 wd (hsz wd (by simp))
  obtain ⟨rb, ro, rfl, hrb, c0⟩ := (hR.below hb0).str (k := 0) (s := wd) rfl
  have c1 : (w.alloc (.cells #[.int .u8 0, .int .i64 0, .int .i64 0, .int .i64 0, .int .i64 0] 48)).cell? ⟨rb, ro, none⟩ = some (.string wd) := c0
  have hk0 : Blk _ _ _ (insV Ins.zero) := Blk.new w 48 (insV Ins.zero)
  have hrd : AS.rdLine wd.data.toList (bts ws) = (AS.opIx AS.names wd.data.toList).bind fun op => if (AS.shape op).length = (bts ws).length then (AS.rdAll (AS.shape op) (bts ws) { Ins.zero with op := op }).bind fun i => if AS.valid i then some i else none else none := rfl
  have HF := Lib.hid hF
  have HN := Lib.hid hN
  have HR := Lib.hid hR
  have HB0 := Lib.hid hb0
  have HK0 := Lib.hid hk0
  clear hF hT hT1 hN hR hb0 hsz hk0 c0
  generalize AS.rdLine wd.data.toList (bts ws) = R at *
  have hnp : 0 < n := by rw [← HN.out]; simp
  have q0 : (0 : Int) < (n : Int) := by omega
  cases hx : AS.opIx AS.names wd.data.toList with
  | none =>
    rw [hx] at hlk hrd
    have hRn : R = none := hrd
    subst hRn
    clear hrd
    have HQ := Lib.hid (show Below w.heap.size w (w.alloc (.cells #[.int .u8 0, .int .i64 0, .int .i64 0, .int .i64 0, .int .i64 0] 48)) from HB0.out)
    go_enter Tryd.func36, Tryd.ntmps36
    go_wp2_with fail
    refine bodyPost_ret (ins2_result (i := Ins.zero) rfl rfl HK0.out) rfl ?_
    exact plend_none HQ.out rfl
  | some op =>
    rw [hx] at hlk hrd
    obtain ⟨hop, _⟩ := opIx_some hx
    simp only [Option.bind_some] at hrd
    have HRD := Lib.hid hrd
    have HOP := Lib.hid (operands_any op hop (w.alloc (.cells #[.int .u8 0, .int .i64 0, .int .i64 0, .int .i64 0, .int .i64 0] 48)))
    clear hrd hx
    go_enter Tryd.func36, Tryd.ntmps36
    go_wp2_with fail
    refine HOP.out.mono ?_
    rintro e w2 ⟨A2, c2, rfl, hb2, ho2⟩
    have HB2 := Lib.hid (HB0.out.trans (hb2.mono (by simp)))
    have HK2 := Lib.hid (HK0.out.below hb2)
    have HO2 := Lib.hid ho2
    obtain ⟨r0, r1, r2, r3, r4⟩ := HK2.out.five
    have hnb : (bts ws).length + 1 = n := by rw [← HN.out]; simp [bts]
    have hsl := AS.shape_len op
    clear hb2 ho2 HOP hlk c1 HB0 HK0
    by_cases hlen : (AS.shape op).length = (bts ws).length
    · have e1 : (((AS.shape op).length : Int) != (n : Int) - 1) = false := by simp; omega
      have HR1 := Lib.hid (show R = (AS.rdAll (AS.shape op) (bts ws) { Ins.zero with op := op }).bind fun i => if AS.valid i then some i else none by rw [HRD.out, if_pos hlen])
      have hbi := blk_second
      have HB3 := Lib.hid (HB2.out.alloc HB2.out.size (.cells (insV { Ins.zero with op := op }) 48))
      have hst : LRel w w2.heap.size A2 (AS.shape op) ws { Ins.zero with op := op } (.int .i64 0) (w2.alloc (.cells (insV { Ins.zero with op := op }) 48)) :=
        ⟨0, _, Nat.zero_le _, rfl, HB3.out, HK2.out.alloc _, Blk.new w2 _ _, HO2.out.below ((Below.refl _ _).alloc (Nat.le_refl _) _), rfl, rfl⟩
      have HST := Lib.hid hst
      have hn9 : w.heap.size < w2.heap.size := HK2.out.lt
      clear hst hbi HRD
      go_wp2_with fail
      generalize hks : AS.shape op = ks at *
      have HKS := Lib.hid (show ∀ k ∈ ks, k ≤ 3 from fun k hk => AS.shape_le op k (by rw [hks]; exact hk))
      clear hks
      generalize w2.heap.size = n9 at *
      clear r0 r1 r2 r3 r4 HB3
      go_loopw [36] (fun v wr => LRel w n9 A2 ks ws { Ins.zero with op := op } v wr) (fun v _ => ks.length - (intOf v).toNat)
      case atStart => exact HST.out
      case round =>
        obtain ⟨j, ij, hj, rfl, hbw, hkr, hk9, how, hop9, hrd⟩ := hrel
        by_cases hlt : j < ks.length
        · have q1 : (j : Int) < (ks.length : Int) := by omega
          have q2 : (j : Int) + 1 < (n : Int) := by omega
          have q3 : (0 : Int) ≤ (j : Int) + 1 := by omega
          have hwr : IntKind.i64.wrap ((j : Int) + 1) = (j : Int) + 1 := IntWalk.i64_in _ (by omega)
          obtain ⟨k, hk⟩ : ∃ k, ks[j]? = some k := ⟨_, List.getElem?_eq_getElem hlt⟩
          obtain ⟨s, hs⟩ : ∃ s, ws[j]? = some s := ⟨_, List.getElem?_eq_getElem (by simp [bts] at hlen; omega)⟩
          have hk3 := HKS.out k (List.mem_of_getElem? hk)
          have hdk : ks.drop j = k :: ks.drop (j + 1) := by obtain ⟨h1, h2⟩ := List.getElem?_eq_some_iff.1 hk; rw [← h2]; exact List.drop_eq_getElem_cons h1
          have hds : bts (ws.drop j) = s.data.toList :: bts (ws.drop (j + 1)) := by
            obtain ⟨h1, h2⟩ := List.getElem?_eq_some_iff.1 hs
            rw [List.drop_eq_getElem_cons h1, h2]; rfl
          rw [hdk, hds, AS.rdAll] at hrd
          obtain ⟨sb, so, hsA, hsb, s0⟩ := (HR.out.below hbw).str (k := j + 1) (s := s) (by simpa using hs)
          injection hsA with hsA
          injection hsA with hsA1 hsA2
          subst hsA1 hsA2
          have s1 : ∀ o : Obj, (wr.alloc o).cell? ⟨rb, ro + (j + 1), none⟩ = some (.string s) := fun o => (((Below.refl wr.heap.size wr).alloc (Nat.le_refl _) o).cell (p := ⟨rb, ro + (j + 1), none⟩) hsb).trans s0
          obtain ⟨ob, og, rfl, hob, d0, d1, hreg⟩ := how.one hk
          have HRD2 := Lib.hid hrd
          have HBW := Lib.hid hbw
          have HKR := Lib.hid hkr
          have HK9 := Lib.hid hk9
          have HOW := Lib.hid how
          have HREG := Lib.hid hreg
          have h9lt := hk9.lt
          clear hrd hbw hkr hk9 how hreg hdk hds s0
          by_cases hk33 : k = 3
          · have hcf := fun u v W => cf_r3 u v W
            have d0' : wr.cell? ⟨ob, j * 2, none⟩ = some (.func (.func 46) #[] #[]) := by rw [d0, hk33]; rfl
            have d1' : wr.cell? ⟨ob, j * 2 + 1, none⟩ = some (.func (.func 48) #[] #[]) := by rw [d1, hk33]; rfl
            clear d0 d1
            have hrk : AS.rd k s.data.toList = AS.num s.data.toList := by rw [hk33]; rfl
            have hal := (Below.refl wr.heap.size wr).alloc (Nat.le_refl _) (.cells #[.func (.func 46) #[] #[], .func (.func 48) #[] #[]] 68)
            have HREG1 := Lib.hid (HREG.out.below hal)
            have HCALL := Lib.hid (by have h := rimm_any ij n9 s (wr.alloc (.cells #[.func (.func 46) #[] #[], .func (.func 48) #[] #[]] 68)) (HK9.out.below hal); rw [show (3 : Nat) = k from hk33.symm] at h; exact h)
            have HCALLd := Lib.hid (by have h := rimm_any ij n9 s (wr.alloc (.cells #[.func (.func 46) #[] #[], .func (.func 48) #[] #[]] 68)).drew ((HK9.out.below hal).drewN 1); rw [show (3 : Nat) = k from hk33.symm] at h; exact h)
            have HKR1 := Lib.hid (HKR.out.below hal)
            have HBW1 := Lib.hid (HBW.out.trans (hal.mono HBW.out.size))
            have HOW1 := Lib.hid (HOW.out.below hal)
            have HK91 := Lib.hid (HK9.out.below hal)
            clear hal
            rw [hrk] at HRD2
            cases hnum : AS.num s.data.toList with
            | none =>
              rw [hnum] at HCALL HCALLd HRD2
              have hRn : R = none := by rw [HR1.out, ← HRD2.out]; rfl
              have HRN := Lib.hid hRn
              clear hRn hnum hrk
              go_wp2_with fail
              go_region_law (go_simp; go_at_call 48; (first | (with_reducible refine HCALL.out.mono ?_) | (with_reducible refine HCALLd.out.mono ?_)); rintro e w5 ⟨rfl, _, hn5⟩; obtain ⟨hbb5, hbk5⟩ : Below w.heap.size w w5 ∧ Blk w5 w.heap.size 48 (insV Ins.zero) := (by first | exact fail_frame HBW1.out HKR1.out hn9 (hn5 rfl) | exact fail_frame (below_drewN HBW1.out 1) (HKR1.out.drewN 1) hn9 (hn5 rfl)); have HB5 := Lib.hid hbb5; have HK5 := Lib.hid hbk5; clear hbb5 hbk5 hn5)
              all_goals
                obtain ⟨r0, r1, r2, r3, r4⟩ := HK5.out.five
                have g0 := HK5.out.frozen 0
                have g1 := HK5.out.frozen 1
                have g2 := HK5.out.frozen 2
                have g3 := HK5.out.frozen 3
                have g4 := HK5.out.frozen 4
                have HQ := Lib.hid (fun v0 v1 v2 v3 v4 => (show Blk (((((w5.setCell ⟨w.heap.size, 0, none⟩ v0).setCell ⟨w.heap.size, 1, none⟩ v1).setCell ⟨w.heap.size, 2, none⟩ v2).setCell ⟨w.heap.size, 3, none⟩ v3).setCell ⟨w.heap.size, 4, none⟩ v4) w.heap.size 48 #[v0, v1, v2, v3, v4] from ((((HK5.out.set_ 0 v0).set_ 1 v1).set_ 2 v2).set_ 3 v3).set_ 4 v4))
                have HQB := Lib.hid (fun v0 v1 v2 v3 v4 => ((((HB5.out.setCell (p := ⟨w.heap.size, 0, none⟩) (Nat.le_refl _) v0).setCell (p := ⟨w.heap.size, 1, none⟩) (Nat.le_refl _) v1).setCell (p := ⟨w.heap.size, 2, none⟩) (Nat.le_refl _) v2).setCell (p := ⟨w.heap.size, 3, none⟩) (Nat.le_refl _) v3).setCell (p := ⟨w.heap.size, 4, none⟩) (Nat.le_refl _) v4)
                go_wp2_with fail
                refine bodyPost_ret (ins2_result (i := Ins.zero) rfl rfl (HQ.out _ _ _ _ _)) rfl ?_
                rw [HRN.out]
                exact plend_none (HQB.out _ _ _ _ _) rfl
            | some v =>
              rw [hnum] at HCALL HCALLd HRD2
              clear hnum hrk
              go_wp2_with fail
              go_region_law (go_simp; go_at_call 48; (first | (with_reducible refine HCALL.out.mono ?_) | (with_reducible refine HCALLd.out.mono ?_)); rintro e w5 ⟨rfl, hs5, _⟩; have hw5 := hs5 v rfl; have HST5 := Lib.hid (show LRel w n9 (some ⟨ob, 0, none⟩) ks ws { Ins.zero with op := op } (.int .i64 ((j + 1 : Nat) : Int)) w5 from (by rw [hw5]; first | exact lrel_step HBW1.out HKR1.out HK91.out HOW1.out hn9 hk3 (by omega) hop9 HRD2.out | exact lrel_step (below_drewN HBW1.out 1) (HKR1.out.drewN 1) (HK91.out.drewN 1) HOW1.out hn9 hk3 (by omega) hop9 HRD2.out)); clear hs5 hw5)
              all_goals
                go_wp2_with fail
                go_roundw
                case rel =>
                  refine ⟨_, _, _, _, ?_, rfl, rfl, rfl, rfl⟩
                  have := HST5.out
                  simpa using this
                case measure => simp [intOf]; omega
          · have hcf := fun u v x W => cf_rr u v x W
            have hk22 : k ≤ 2 := by omega
            have d0' : wr.cell? ⟨ob, j * 2, none⟩ = some (.func (.func 61) #[] #[.pointer (some ⟨og, 0, none⟩)]) := by rw [d0]; unfold fnW; rw [if_neg hk33]
            have d1' : wr.cell? ⟨ob, j * 2 + 1, none⟩ = some (.func (.func 62) #[] #[.pointer (some ⟨og, 0, none⟩)]) := by rw [d1]; unfold fnR; rw [if_neg hk33]
            clear d0 d1
            have hrk : AS.rd k s.data.toList = AS.reg s.data.toList := by unfold AS.rd; rw [if_neg hk33]
            have hal := (Below.refl wr.heap.size wr).alloc (Nat.le_refl _) (.cells #[.func (.func 61) #[] #[.pointer (some ⟨og, 0, none⟩)], .func (.func 62) #[] #[.pointer (some ⟨og, 0, none⟩)]] 68)
            have HREG1 := Lib.hid (HREG.out.below hal)
            have HCALL := Lib.hid (rreg_any ij n9 k og hk22 s (wr.alloc (.cells #[.func (.func 61) #[] #[.pointer (some ⟨og, 0, none⟩)], .func (.func 62) #[] #[.pointer (some ⟨og, 0, none⟩)]] 68)) (HK9.out.below hal) HREG1.out)
            have HCALLd := Lib.hid (rreg_any ij n9 k og hk22 s (wr.alloc (.cells #[.func (.func 61) #[] #[.pointer (some ⟨og, 0, none⟩)], .func (.func 62) #[] #[.pointer (some ⟨og, 0, none⟩)]] 68)).drew ((HK9.out.below hal).drewN 1) HREG1.out)
            have HKR1 := Lib.hid (HKR.out.below hal)
            have HBW1 := Lib.hid (HBW.out.trans (hal.mono HBW.out.size))
            have HOW1 := Lib.hid (HOW.out.below hal)
            have HK91 := Lib.hid (HK9.out.below hal)
            clear hal
            rw [hrk] at HRD2
            cases hnum : AS.reg s.data.toList with
            | none =>
              rw [hnum] at HCALL HCALLd HRD2
              have hRn : R = none := by rw [HR1.out, ← HRD2.out]; rfl
              have HRN := Lib.hid hRn
              clear hRn hnum hrk
              go_wp2_with fail
              go_region_law (go_simp; go_at_call 62; (first | (with_reducible refine HCALL.out.mono ?_) | (with_reducible refine HCALLd.out.mono ?_)); rintro e w5 ⟨rfl, _, hn5⟩; obtain ⟨hbb5, hbk5⟩ : Below w.heap.size w w5 ∧ Blk w5 w.heap.size 48 (insV Ins.zero) := (by first | exact fail_frame HBW1.out HKR1.out hn9 (hn5 rfl) | exact fail_frame (below_drewN HBW1.out 1) (HKR1.out.drewN 1) hn9 (hn5 rfl)); have HB5 := Lib.hid hbb5; have HK5 := Lib.hid hbk5; clear hbb5 hbk5 hn5)
              all_goals
                obtain ⟨r0, r1, r2, r3, r4⟩ := HK5.out.five
                have g0 := HK5.out.frozen 0
                have g1 := HK5.out.frozen 1
                have g2 := HK5.out.frozen 2
                have g3 := HK5.out.frozen 3
                have g4 := HK5.out.frozen 4
                have HQ := Lib.hid (fun v0 v1 v2 v3 v4 => (show Blk (((((w5.setCell ⟨w.heap.size, 0, none⟩ v0).setCell ⟨w.heap.size, 1, none⟩ v1).setCell ⟨w.heap.size, 2, none⟩ v2).setCell ⟨w.heap.size, 3, none⟩ v3).setCell ⟨w.heap.size, 4, none⟩ v4) w.heap.size 48 #[v0, v1, v2, v3, v4] from ((((HK5.out.set_ 0 v0).set_ 1 v1).set_ 2 v2).set_ 3 v3).set_ 4 v4))
                have HQB := Lib.hid (fun v0 v1 v2 v3 v4 => ((((HB5.out.setCell (p := ⟨w.heap.size, 0, none⟩) (Nat.le_refl _) v0).setCell (p := ⟨w.heap.size, 1, none⟩) (Nat.le_refl _) v1).setCell (p := ⟨w.heap.size, 2, none⟩) (Nat.le_refl _) v2).setCell (p := ⟨w.heap.size, 3, none⟩) (Nat.le_refl _) v3).setCell (p := ⟨w.heap.size, 4, none⟩) (Nat.le_refl _) v4)
                go_wp2_with fail
                refine bodyPost_ret (ins2_result (i := Ins.zero) rfl rfl (HQ.out _ _ _ _ _)) rfl ?_
                rw [HRN.out]
                exact plend_none (HQB.out _ _ _ _ _) rfl
            | some v =>
              rw [hnum] at HCALL HCALLd HRD2
              clear hnum hrk
              go_wp2_with fail
              go_region_law (go_simp; go_at_call 62; (first | (with_reducible refine HCALL.out.mono ?_) | (with_reducible refine HCALLd.out.mono ?_)); rintro e w5 ⟨rfl, hs5, _⟩; have hw5 := hs5 v rfl; have HST5 := Lib.hid (show LRel w n9 (some ⟨ob, 0, none⟩) ks ws { Ins.zero with op := op } (.int .i64 ((j + 1 : Nat) : Int)) w5 from (by rw [hw5]; first | exact lrel_step HBW1.out HKR1.out HK91.out HOW1.out hn9 hk3 (by omega) hop9 HRD2.out | exact lrel_step (below_drewN HBW1.out 1) (HKR1.out.drewN 1) (HK91.out.drewN 1) HOW1.out hn9 hk3 (by omega) hop9 HRD2.out)); clear hs5 hw5)
              all_goals
                go_wp2_with fail
                go_roundw
                case rel =>
                  refine ⟨_, _, _, _, ?_, rfl, rfl, rfl, rfl⟩
                  have := HST5.out
                  simpa using this
                case measure => simp [intOf]; omega
        · have hjk : j = ks.length := by omega
          have hlw : ws.length = ks.length := by simp [bts] at hlen; omega
          have e0 : ks.drop j = [] := by rw [hjk]; exact List.drop_length
          have e1' : bts (ws.drop j) = [] := by rw [hjk, ← hlw, List.drop_length]; rfl
          rw [e0, e1', AS.rdAll] at hrd
          have hRv : R = if AS.valid ij then some ij else none := by rw [HR1.out, ← hrd]; rfl
          have q1 : ¬ (j : Int) < (ks.length : Int) := by omega
          have hopij : ij.op ≤ 255 := by rw [hop9]; show op ≤ 255; omega
          have HBW := Lib.hid hbw
          have HKR := Lib.hid hkr
          have HK9 := Lib.hid hk9
          have HRV := Lib.hid hRv
          have HVA := Lib.hid (show Calls Tryd.prog 24 #[.agg #[.int .u8 (ij.op : Int), .int .i64 ij.a, .int .i64 ij.b, .int .i64 ij.c, .int .i64 ij.imm]] wr _ from valid_any ij hopij wr (HF.out.below hbw))
          have HVAd := Lib.hid (show Calls Tryd.prog 24 #[.agg #[.int .u8 (ij.op : Int), .int .i64 ij.a, .int .i64 ij.b, .int .i64 ij.c, .int .i64 ij.imm]] wr.drew _ from valid_any ij hopij wr.drew (HF.out.below (below_drewN hbw 1)))
          obtain ⟨x0, x1, x2, x3, x4⟩ := hk9.five
          have hw9 := hk9.lt
          clear hbw hkr hk9 hRv hrd how e0 e1' hjk hop9
          go_wp2_with fail
          go_region_law (go_simp; go_at_call 24; (first | (with_reducible refine HVA.out.mono ?_) | (with_reducible refine HVAd.out.mono ?_)); rintro e w6 ⟨rfl, hb6⟩; obtain ⟨hbb6, hk6, hk96⟩ : Below w.heap.size w w6 ∧ Blk w6 w.heap.size 48 (insV Ins.zero) ∧ Blk w6 n9 48 (insV ij) := (by first | exact ⟨HBW.out.trans (hb6.mono HBW.out.size), HKR.out.below hb6, HK9.out.below hb6⟩ | exact ⟨(below_drewN HBW.out 1).trans (hb6.mono HBW.out.size), (HKR.out.drewN 1).below hb6, (HK9.out.drewN 1).below hb6⟩); have HB6 := Lib.hid hbb6; have HK6 := Lib.hid hk6; obtain ⟨y0, y1, y2, y3, y4⟩ := hk96.five; obtain ⟨r0, r1, r2, r3, r4⟩ := hk6.five; have g0 := hk6.frozen 0; have g1 := hk6.frozen 1; have g2 := hk6.frozen 2; have g3 := hk6.frozen 3; have g4 := hk6.frozen 4; clear hbb6 hk6 hk96 hb6)
          all_goals
            have HQ := Lib.hid (fun v0 v1 v2 v3 v4 => (show Blk (((((w6.setCell ⟨w.heap.size, 0, none⟩ v0).setCell ⟨w.heap.size, 1, none⟩ v1).setCell ⟨w.heap.size, 2, none⟩ v2).setCell ⟨w.heap.size, 3, none⟩ v3).setCell ⟨w.heap.size, 4, none⟩ v4) w.heap.size 48 #[v0, v1, v2, v3, v4] from ((((HK6.out.set_ 0 v0).set_ 1 v1).set_ 2 v2).set_ 3 v3).set_ 4 v4))
            have HQB := Lib.hid (fun v0 v1 v2 v3 v4 => ((((HB6.out.setCell (p := ⟨w.heap.size, 0, none⟩) (Nat.le_refl _) v0).setCell (p := ⟨w.heap.size, 1, none⟩) (Nat.le_refl _) v1).setCell (p := ⟨w.heap.size, 2, none⟩) (Nat.le_refl _) v2).setCell (p := ⟨w.heap.size, 3, none⟩) (Nat.le_refl _) v3).setCell (p := ⟨w.heap.size, 4, none⟩) (Nat.le_refl _) v4)
            go_wp2_with fail
            refine bodyPost_ret (ins2_result (i := ij) rfl rfl (HQ.out _ _ _ _ _)) rfl ?_
            rw [HRV.out]
            exact plend_valid (HQB.out _ _ _ _ _)
    · have e1 : (((AS.shape op).length : Int) != (n : Int) - 1) = true := by simp; omega
      have HRN := Lib.hid (show R = none by rw [HRD.out, if_neg hlen])
      have g0 := HK2.out.frozen 0
      have g1 := HK2.out.frozen 1
      have g2 := HK2.out.frozen 2
      have g3 := HK2.out.frozen 3
      have g4 := HK2.out.frozen 4
      have HQ := Lib.hid (fun v0 v1 v2 v3 v4 => (show Blk (((((w2.setCell ⟨w.heap.size, 0, none⟩ v0).setCell ⟨w.heap.size, 1, none⟩ v1).setCell ⟨w.heap.size, 2, none⟩ v2).setCell ⟨w.heap.size, 3, none⟩ v3).setCell ⟨w.heap.size, 4, none⟩ v4) w.heap.size 48 #[v0, v1, v2, v3, v4] from ((((HK2.out.set_ 0 v0).set_ 1 v1).set_ 2 v2).set_ 3 v3).set_ 4 v4))
      have HQB := Lib.hid (fun v0 v1 v2 v3 v4 => ((((HB2.out.setCell (p := ⟨w.heap.size, 0, none⟩) (Nat.le_refl _) v0).setCell (p := ⟨w.heap.size, 1, none⟩) (Nat.le_refl _) v1).setCell (p := ⟨w.heap.size, 2, none⟩) (Nat.le_refl _) v2).setCell (p := ⟨w.heap.size, 3, none⟩) (Nat.le_refl _) v3).setCell (p := ⟨w.heap.size, 4, none⟩) (Nat.le_refl _) v4)
      clear HRD
      go_wp2_with fail
      refine bodyPost_ret (ins2_result (i := Ins.zero) rfl rfl (HQ.out _ _ _ _ _)) rfl ?_
      rw [HRN.out]
      exact plend_none (HQB.out _ _ _ _ _) rfl
end
end Go.Proofs.YtgeagpplihecmaaDoor
