/- The contract of the reference's Lex. -/
import Derived.Test.YtgacfcdpgcpjeaaDoorLexC
import Derived.Test.YtgacfcdpgcpjeaaDoorRefB
import Derived.Deep.RegionHeld3
import Derived.Deep.AppendLies
namespace Go.Proofs.YtgacfcdpgcpjeaaDoor
open Go.RowKit

def RefLexEnd (s : ByteArray) (w : World) (e : Ending) (w' : World) : Prop :=
  ∃ v, e = .returned (.tuple #[v, .int .i64 ((PL.lex s.data.toList).2.1 : Int), .int .i64 ((PL.lex s.data.toList).2.2 : Int)]) ∧
    w'.ownsRow w.heap.size 48 3 v (PL.lex s.data.toList).1.length (toksCells (PL.lex s.data.toList).1) ∧ Below w.heap.size w w'
theorem infoRefTok : (Tryd.prog.info? 48).map (fun i => (i.zero, i.size, i.bytes)) = some (some (.agg #[.int .u8 0, .string ⟨#[]⟩, .int .i64 0]), 3, 32) := by kernel_rfl
theorem cut_between (s : ByteArray) (a b : Nat) : (s.extract a b).data.toList = (s.data.toList.drop a).take (b - a) := Lib.extract_data s a b

set_option maxHeartbeats 1000000 in
theorem rlex_any (s : ByteArray) (w : World) (hs : s.size ≤ 65536) : Calls Tryd.prog 14 #[.string s] w (RefLexEnd s w) := by
  have hlen : s.data.toList.length = s.size := Array.length_toList
  have HL := Lib.hid hlen
  clear hlen
  obtain ⟨i0, hi, hz0, hz1, hz2⟩ := info_parts infoRefTok
  have HI := Lib.hid hi
  have HZ0 := Lib.hid hz0
  have HZ1 := Lib.hid hz1
  have HZ2 := Lib.hid hz2
  clear hi hz0 hz1 hz2
  go_enter Tryd.func14, Tryd.ntmps14
  go_wp2_with fail
  go_loopw [5, 6] (fun v i wr => ∃ (pos : Nat) (ts : List PL.Tok), PL.Lexed s.data.toList pos ts ∧ i = .int .i64 pos ∧ wr.ownsRow w.heap.size 48 3 v ts.length (toksCells ts) ∧ Below w.heap.size w wr)
    (fun _ i _ => s.size - (intOf i).toNat)
  case atStart => exact ⟨0, [], PL.Lexed.start _, rfl, World.ownsRow_nil _ _ _ _, Below.refl _ _⟩
  case round =>
    obtain ⟨pos, ts, hlx, rfl, hown, hbel⟩ := hrel
    have hpl : pos ≤ s.size := by have := hlx.1; rw [HL.out] at this; exact this
    have hsz := hbel.size
    obtain ⟨wo, rfl⟩ : ∃ wo : World, wo = wr := ⟨_, rfl⟩
    by_cases hlt : pos < s.size
    · have hfl := PL.first_le (s.data.toList.drop pos)
      rw [List.length_drop, HL.out] at hfl
      have hne : s.data.toList.drop pos ≠ [] := by
        intro h; have := congrArg List.length h; rw [List.length_drop, HL.out] at this; simp at this; omega
      have hrf := PL.ref_first (s.data.toList.drop pos) hne
      rw [List.length_drop, HL.out] at hrf
      have hks : ∀ (j : Nat) (W : World), pos ≤ j → j ≤ s.size → Calls Tryd.prog 25 #[.string (s.extract pos j)] W fun e w' => e = .returned (.int .u8 (PL.refKind ((s.data.toList.drop pos).take (j - pos)) : Int)) ∧ Below W.heap.size W w' := fun j W _ h2 => by
        have := kind_any (s.extract pos j) W (by simp [maxLen]; omega)
        rw [cut_between] at this
        exact this
      generalize hk : (PL.first (s.data.toList.drop pos)).1 = kk at *
      generalize hm : (PL.first (s.data.toList.drop pos)).2 = mm at *
      have HRF := Lib.hid hrf
      have HKS := Lib.hid hks
      have HK := Lib.hid hk
      have HM := Lib.hid hm
      clear hk hm hrf hks hne
      go_wp2_with fail
      go_loopw [7] (fun x wr => ∃ (j : Nat), pos + mm ≤ j ∧ j ≤ s.size ∧ x = .int .i64 j ∧ Below wo.heap.size wo wr) (fun x _ => (intOf x).toNat)
      case atStart => exact ⟨s.size, by omega, Nat.le_refl _, rfl, Below.refl _ _⟩
      case round =>
        obtain ⟨j, hj1, hj2, rfl, hbr⟩ := hrel
        have hszr := hbr.size
        by_cases hgt : pos + mm < j
        · have hz := (HRF.out (j - pos) (by omega) (by omega)).2 (by omega)
          have hks := HKS.out j wr (by omega) hj2
          rw [hz] at hks
          have HKJ := Lib.hid hks
          have hlt2 : pos < j := by omega
          clear hz hks
          go_wp2_with (go_at_call 25; refine HKJ.out.mono ?_; rintro e w1 ⟨rfl, hb1⟩)
          go_roundw
          case rel => exact ⟨j - 1, by omega, by omega, by go_num, hbr.trans (hb1.mono hszr)⟩
          case measure => simp [intOf]; omega
        · obtain rfl : j = pos + mm := by omega
          by_cases h0 : mm = 0
          · subst h0
            go_wp2_with fail
            go_ret3
            have hl := hlx.bad (by rw [HL.out]; exact hlt) (by rw [HM.out]) (by rw [HL.out]; exact hs)
            unfold RefLexEnd
            rw [hl]
            exact ⟨_, rfl, World.ownsRow_nil _ _ _ _, hbel.trans (hbr.mono hsz)⟩
          · have hz := (HRF.out (pos + mm - pos) (by omega) (by omega)).1 (by omega)
            have hks := HKS.out (pos + mm)
            rw [hz.1] at hks
            have hkk : ((kk : Int) == 0) = false := beq_eq_false_iff_ne.2 (by have := hz.2; omega)
            have hen : ((pos : Int) + (mm : Int) == (pos : Int)) = false := beq_eq_false_iff_ne.2 (by omega)
            have HKJ := Lib.hid hks
            clear hks hz
            go_wp2_with (go_at_call 25; refine (HKJ.out _ (by omega) (by omega)).mono ?_; rintro e w1 ⟨rfl, hb1⟩)
            have hbw : Below wo.heap.size wo w1 := hbr.trans (hb1.mono hszr)
            have hown1 := own_below hown hbw
            have hz1 := hbw.size
            have q1 : (0 : Int) ≤ (pos : Int) := by omega
            have q2 : (pos : Int) ≤ (pos : Int) + (mm : Int) := by omega
            have q3 : (pos : Int) + (mm : Int) ≤ (s.size : Int) := by omega
            have htl := hlx.2.1
            clear hb1 hbr hkk hen
            go_region_held3 (fun _ => True) (exact trivial) (first | (go_at_call 25; refine (HKJ.out _ (by omega) (by omega)).mono ?_; rintro e w2 ⟨rfl, hb2⟩) | (refine step_append_lies _ (by rfl) _ _ _ (by rfl) w.heap.size 48 i0 _ 3 32 Tryd.underlying27 HI.out HZ0.out HZ1.out HZ2.out rfl (by omega) u5 ts.length (toksCells ts) (by rfl) ((own_below (w := w1.drew) hown1 hb2).alloc _) ⟨w2.heap.size, 0, none⟩ 1 1 [.int .u8 (kk : Int), .string (s.extract pos (pos + mm)), .int .i64 (pos : Int)] (by rfl) (by rfl) (World.news_of_block (cs := #[.int .u8 (kk : Int), .string (s.extract pos (pos + mm)), .int .i64 (pos : Int)]) (t := 48) (fr := (0, 0)) (heap_alloc_new w2 _)) (by simp [Value.oneCell']) (by omega) (by unfold maxLen; omega) (by omega) (by have := hb2.size; simp at this ⊢; omega) (w2.heap.size + 1) (by simp) ?_; intro gg cap w3 hown3 hgrow3 hat3 hlt3))
            have hnx := hlx.next (by rw [HL.out]; exact hlt) (by rw [HM.out]; exact h0)
            rw [HK.out, HM.out, ← cutd s pos mm] at hnx
            have hrow : w3.ownsRow w.heap.size 48 3 (.slice (some ⟨gg, 0, none⟩) (ts.length + 1) cap) (ts ++ [(⟨kk, (s.extract pos (pos + mm)).data.toList, pos⟩ : PL.Tok)]).length (toksCells (ts ++ [⟨kk, (s.extract pos (pos + mm)).data.toList, pos⟩])) := by
              rw [toksCells_snoc, List.length_append]
              exact hown3
            have hb2s := hb2.size
            have hd : w1.drew.heap.size = w1.heap.size := rfl
            have hbel3 : Below w.heap.size w w3 := by
              have h1 : Below w.heap.size w w1.drew := (hbel.trans (hbw.mono hsz)).drew
              have h2 : Below w.heap.size w w2 := h1.trans (hb2.mono (by rw [hd]; omega))
              have h3 := h2.alloc (by omega) (.cells #[.int .u8 (kk : Int), .string (s.extract pos (pos + mm)), .int .i64 (pos : Int)] 48)
              exact Below.grown h3 hgrow3 (by simp; omega) (fun k hk => (hown.lt k hk).1)
            have HN := Lib.hid hnx
            clear hown3 hgrow3 hat3 hnx hd
            go_wp2_with fail
            go_roundw
            case rel => exact ⟨pos + mm, _, HN.out, by go_num, hrow, hbel3⟩
            case measure => simp [intOf]; omega
    · go_wp2_with fail
      go_ret3
      have hp : pos = s.data.toList.length := by rw [HL.out]; omega
      subst hp
      have hl := hlx.done (by rw [HL.out]; exact hs)
      unfold RefLexEnd
      rw [hl]
      exact ⟨_, rfl, hown, hbel⟩
end Go.Proofs.YtgacfcdpgcpjeaaDoor
