/- The contract of the parser's number. -/
import Derived.Test.YtaaaicpjlaeiiaaDoorParD
namespace Go.Proofs.YtaaaicpjlaeiiaaDoor
open Go.RowKit Go.Maps

/-- What the loop over the digits has read. -/
def Read (high : Int) (ds : List UInt8) (k : Nat) (v : Int) : Prop := PP.digitsVal high 0 ds = PP.digitsVal high v (ds.drop k) ∧ 0 ≤ v ∧ v ≤ high * 10 + 255
theorem Read.next {high : Int} {ds : List UInt8} {k : Nat} {v : Int} (h : Read high ds k v) (hk : k < ds.length) (hv : v ≤ high) : Read high ds (k + 1) (v * 10 + ((ds[k] - 48).toNat : Int)) := by
  have hd : (ds[k] - 48).toNat < 256 := (ds[k] - 48).toNat_lt
  refine ⟨?_, by have := h.2.1; omega, by omega⟩
  rw [h.1, List.drop_eq_getElem_cons hk]
  simp only [PP.digitsVal, hv, if_true]
theorem Read.stop {high : Int} {ds : List UInt8} {k : Nat} {v : Int} (h : Read high ds k v) (hd : ds.length ≤ k ∨ high < v) : PP.digitsVal high 0 ds = v := by
  rw [h.1]
  rcases hd with hd | hd
  · rw [List.drop_of_length_le hd]; rfl
  · cases ds.drop k with
    | nil => rfl
    | cons a t => simp only [PP.digitsVal]; rw [if_neg (by omega)]
def NumRel (high : Int) (ds : List UInt8) (n : Nat) (x i : Value) : Prop := ∃ (k : Nat) (v : Int), k ≤ n ∧ i = .int .i64 k ∧ x = .int .i64 v ∧ Read high ds k v
theorem sub48 (c : UInt8) : IntKind.u8.wrap ((c.toNat : Int) - 48) = ((c - 48).toNat : Int) := by
  rw [IntKind.wrap_u8, UInt8.toNat_sub]
  have := c.toNat_lt
  simp
  omega

section
set_option maxHeartbeats 400000
set_option maxRecDepth 100000
variable {b : Nat} {X : Loc} {E : PP.Env} {σ : PP.St}
theorem numP_any (low high : Int) (w : World) (_hl0 : 0 ≤ low) (hh0 : 0 ≤ high) (hh : high ≤ 2147483647) (h : PS w b X E σ) :
    Calls Tryd.prog 104 #[.pointer (some ⟨b, 0, none⟩), .int .i64 low, .int .i64 high] w fun r w' => r = .returned (.int .i64 (PP.numP E σ low high).2) ∧ PS w' b X E (PP.numP E σ low high).1 ∧ Fr b w w' := by
  obtain ⟨c0, c1, _, _, _, _⟩ := h.cells
  have hmore : ∀ k, Calls Tryd.prog 62 #[.pointer (some ⟨b, 0, none⟩)] (w.drewN k) fun e w' => e = .returned (.bool (PP.more E σ)) ∧ ∃ n, w' = (w.drewN k).drewN n := fun k => more_any _ (h.drewN k)
  have hrej : ∀ k, Calls Tryd.prog 63 #[.pointer (some ⟨b, 0, none⟩)] (w.drewN k) fun r w' => r = .returned (.tuple #[]) ∧ PS w' b X E (PP.reject E σ) ∧ Fr b (w.drewN k) w' := fun k => reject_any _ (h.drewN k)
  have hfr : ∀ k w', Fr b (w.drewN k) w' → Fr b w w' := fun k w' hf => ((Fr.refl b w).drewN k).trans hf
  have HFR := Lib.hid hfr
  have HR := Lib.hid hrej
  clear hfr hrej
  cases hm : PP.more E σ with
  | false =>
    have hv : PP.numP E σ low high = (PP.reject E σ, 0) := by unfold PP.numP; rw [hm]; rfl
    rw [hv]
    rw [hm] at hmore
    have HM := Lib.hid hmore
    clear hmore hm hv h
    go_enter Tryd.func104, Tryd.ntmps104
    go_wp2_with fail
    go_quiet ((go_at_call 62; exact quiet_dr (HM.out _)))
    go_wp2_with fail
    refine (HR.out _).mono ?_
    rintro e w2 ⟨rfl, hp, hf⟩
    go_wp2_with fail
    go_ret
    exact ⟨rfl, hp, HFR.out _ _ hf⟩
  | true =>
    have hn : σ.next < E.ts.length := by
      rcases PP.more_cases E σ with ⟨_, _, h3⟩ | ⟨h1, _⟩ | ⟨h1, _, _⟩
      · exact h3
      · rw [hm] at h1; cases h1
      · rw [hm] at h1; cases h1
    obtain ⟨g, o, hA, t0, t1, t2⟩ := h.cur hn
    have htl := h.txt _ (List.mem_of_getElem? (PP.cur_at E hn))
    rw [hA] at c0
    rw [hm] at hmore
    have HM := Lib.hid hmore
    have p1 : (0 : Int) ≤ (σ.next : Int) := by omega
    have p2 : (σ.next : Int) < (E.ts.length : Int) := by omega
    have hlen := h.len
    by_cases hk : (PP.cur E σ).kind = 2
    · have hv : PP.numP E σ low high = (if PP.digitsVal high 0 (trim0 (PP.cur E σ).text) < low ∨ high < PP.digitsVal high 0 (trim0 (PP.cur E σ).text) then (PP.fail σ (PP.here E σ) 2, 0) else (PP.adv σ, PP.digitsVal high 0 (trim0 (PP.cur E σ).text))) := by
        unfold PP.numP; rw [hm, hk]; rfl
      have htr : ∀ W, Calls Tryd.prog 125 #[.string ⟨(PP.cur E σ).text.toArray⟩, .string ⟨#[48]⟩] W fun e w' => e = .returned (.string ⟨(trim0 (PP.cur E σ).text).toArray⟩) ∧ W = w' := fun W =>
        trimLeft_any ⟨(PP.cur E σ).text.toArray⟩ W (by show (PP.cur E σ).text.toArray.size ≤ _; rw [List.size_toArray]; unfold maxLen; omega)
      have hdl : (trim0 (PP.cur E σ).text).length ≤ 65536 := Nat.le_trans (List.dropWhile_sublist _).length_le htl
      have hhere : ∀ k, Calls Tryd.prog 96 #[.pointer (some ⟨b, 0, none⟩)] (w.drewN k) fun e w' => e = .returned (.int .i64 (PP.here E σ : Int)) ∧ ∃ n, w' = (w.drewN k).drewN n := fun k => here_any _ (h.drewN k)
      have hfail : ∀ k e, Calls Tryd.prog 95 #[.pointer (some ⟨b, 0, none⟩), .int .i64 (PP.here E σ : Int), .int .i64 ((e : Nat) : Int)] (w.drewN k) fun r w' => r = .returned (.tuple #[]) ∧ PS w' b X E (PP.fail σ (PP.here E σ) e) ∧ Fr b (w.drewN k) w' := fun k e => fail_any _ e _ (h.drewN k)
      rw [hk] at t0
      have hset : ∀ k, PS ((w.drewN k).setCell ⟨b, 1, none⟩ (.int .i64 ((σ.next : Int) + 1))) b X E (PP.adv σ) := fun k => (h.drewN k).setNext (σ.next + 1) (by omega)
      have hfs : ∀ k, Fr b w ((w.drewN k).setCell ⟨b, 1, none⟩ (.int .i64 ((σ.next : Int) + 1))) := fun k => ((Fr.refl b w).drewN k).set 1 _
      have f1 := h.frozen 1
      generalize hres : PP.numP E σ low high = res at *
      generalize hD : trim0 (PP.cur E σ).text = D at *
      generalize hVV : PP.digitsVal high 0 D = V at *
      have HV := Lib.hid hv
      have HVV := Lib.hid hVV
      have HTR := Lib.hid htr
      have HHERE := Lib.hid hhere
      have HFAIL := Lib.hid hfail
      have HSET := Lib.hid hset
      have HFS := Lib.hid hfs
      generalize hT : (PP.cur E σ).text = T at *
      clear hmore hm hv hres hVV htr hhere hfail hset hfs hD hT hk hA t2 h htl
      have hdz : (⟨D.toArray⟩ : ByteArray).size = D.length := by show D.toArray.size = _; simp
      have hds : ∀ (k : Nat) (h : k < (⟨D.toArray⟩ : ByteArray).size) (h2 : k < D.length), ((⟨D.toArray⟩ : ByteArray)[k]'h) = D[k]'h2 := fun k h h2 => rfl
      generalize hDB : (⟨D.toArray⟩ : ByteArray) = DB at *
      have HDS := Lib.hid hds
      have HDZ := Lib.hid hdz
      have hdb : DB.size ≤ 65536 := by omega
      clear hds hdz hDB hdl
      go_enter Tryd.func104, Tryd.ntmps104
      go_wp2_with fail
      go_quiet ((go_at_call 62; exact quiet_dr (HM.out _)))
      go_wp2_with fail
      go_quiet ((go_at_call 125; exact quiet_add_left (HTR.out _)))
      go_wp2_with fail
      go_loop [7, 9] (fun x i => NumRel high D DB.size x i) (fun _ i => DB.size - (intOf i).toNat)
      case atStart => exact ⟨0, 0, Nat.zero_le _, rfl, rfl, by simp, by omega, by omega⟩
      case round =>
        obtain ⟨k, v, hk, rfl, rfl, hrd⟩ := hrel
        have hv0 := hrd.2.1
        have hv1 := hrd.2.2
        by_cases hlt : k < DB.size ∧ v ≤ high
        · obtain ⟨hlt, hvh⟩ := hlt
          have hnx := hrd.next (by rw [← HDZ.out]; exact hlt) hvh
          rw [← HDS.out k hlt _] at hnx
          have hsub := sub48 DB[k]
          have hd : (DB[k] - 48).toNat < 256 := (DB[k] - 48).toNat_lt
          generalize hdd : (DB[k] - 48).toNat = dd at *
          have HNX := Lib.hid hnx
          have e1 : decide (k < DB.size) = true := by simp; exact hlt
          have e2 : decide ((k : Int) < (DB.size : Int)) = true := by simp; exact hlt
          have e3 : decide (v ≤ high) = true := by simpa using hvh
          clear hnx hdd
          go_wp2_with fail
          go_round
          case rel => exact ⟨k + 1, _, by omega, by go_num, rfl, HNX.out⟩
          case measure => simp [intOf]; omega
        · have hst := hrd.stop (by rw [← HDZ.out]; omega)
          rw [HVV.out] at hst
          subst hst
          have hex : (k < DB.size ∧ ¬ V ≤ high) ∨ ¬ k < DB.size := by omega
          clear hrd hlt HVV
          by_cases hbad : V < low ∨ high < V
          · have hres := HV.out
            rw [if_pos hbad] at hres
            have HRES := Lib.hid hres
            clear hres
            rcases hex with ⟨q1, q2⟩ | q1 <;> rcases (show V < low ∨ (¬ V < low ∧ high < V) from by omega) with r1 | ⟨r1, r2⟩
            all_goals
              go_wp2_with fail
              refine (HHERE.out _).mono ?_
              rintro e w1 ⟨rfl, n1, rfl⟩
              go_wp2_with fail
              refine (HFAIL.out _ 2).mono ?_
              rintro e w2 ⟨rfl, hp, hf⟩
              go_wp2_with fail
              go_ret
              rw [HRES.out]
              exact ⟨rfl, hp, HFR.out _ _ hf⟩
          · have hres := HV.out
            rw [if_neg hbad] at hres
            have HRES := Lib.hid hres
            clear hres
            rcases hex with ⟨q1, q2⟩ | q1
            · exfalso; omega
            · go_wp2_with fail
              go_ret
              rw [HRES.out]
              exact ⟨rfl, HSET.out _, HFS.out _⟩
    · have hv : PP.numP E σ low high = (PP.reject E σ, 0) := by unfold PP.numP; rw [hm]; simp [hk]
      rw [hv]
      have hkk : (((PP.cur E σ).kind : Int) != 2) = true := by simp; omega
      generalize hKK : (PP.cur E σ).kind = KK at *
      clear hmore hm hv h hk hKK t1 t2 hA htl
      go_enter Tryd.func104, Tryd.ntmps104
      go_wp2_with fail
      go_quiet ((go_at_call 62; exact quiet_dr (HM.out _)))
      go_wp2_with fail
      refine (HR.out _).mono ?_
      rintro e w2 ⟨rfl, hp, hf⟩
      go_wp2_with fail
      go_ret
      exact ⟨rfl, hp, HFR.out _ _ hf⟩
end
end Go.Proofs.YtaaaicpjlaeiiaaDoor
