/- The contract of the statements' check of the chapter's examples. -/
import Derived.Test.YtgacfcdpgcpjeaaDoorLexC
namespace Go.Proofs.YtgacfcdpgcpjeaaDoor
open Go.RowKit

theorem lex_one : PL.lex [120, 49, 60, 60, 61, 50, 35, 99] = ([⟨1, [120, 49], 0⟩, ⟨3, [60, 60], 2⟩, ⟨3, [61], 4⟩, ⟨2, [50], 5⟩, ⟨5, [35, 99], 6⟩], 0, 0) := by rfl
theorem lex_two : PL.lex [97, 66] = ([], 1, 3) := by rfl

set_option maxRecDepth 100000 in
set_option maxHeartbeats 400000 in
theorem awake_any (w : World) (hg : SignsIs w) : Calls Tryd.prog 12 #[] w fun e w' => e = .returned (.bool true) ∧ Below w.heap.size w w' := by
  have h1 := lex_any ⟨#[120, 49, 60, 60, 61, 50, 35, 99]⟩ w hg (by decide)
  unfold LexEnd at h1
  rw [show (⟨#[120, 49, 60, 60, 61, 50, 35, 99]⟩ : ByteArray).data.toList = [120, 49, 60, 60, 61, 50, 35, 99] from rfl, lex_one] at h1
  have H1 := Lib.hid h1
  clear h1
  go_enter Tryd.func12, Tryd.ntmps12
  go_wp2_with fail
  refine H1.out.mono ?_
  rintro e w1 ⟨v1, rfl, hown1, hb1⟩
  have h2 := lex_any ⟨#[97, 66]⟩ w1 (hg.below hb1 hg.pos) (by decide)
  unfold LexEnd at h2
  rw [show (⟨#[97, 66]⟩ : ByteArray).data.toList = [97, 66] from rfl, lex_two] at h2
  have H2 := Lib.hid h2
  clear h2
  go_wp2_with fail
  refine H2.out.mono ?_
  rintro e w2 ⟨v2, rfl, hown2, hb2⟩
  obtain ⟨g, cap, rfl, hg1, hg2, hc, hcell⟩ := own_cells (own_below hown1 hb2) (by simp)
  have c1 : w2.cell? ⟨g, 1, none⟩ = some (.string ⟨#[120, 49]⟩) := hcell 1 _ rfl
  have c4 : w2.cell? ⟨g, 4, none⟩ = some (.string ⟨#[60, 60]⟩) := hcell 4 _ rfl
  have c7 : w2.cell? ⟨g, 7, none⟩ = some (.string ⟨#[61]⟩) := hcell 7 _ rfl
  have c9 : w2.cell? ⟨g, 9, none⟩ = some (.int .u8 2) := hcell 9 _ rfl
  have c12 : w2.cell? ⟨g, 12, none⟩ = some (.int .u8 5) := hcell 12 _ rfl
  have c14 : w2.cell? ⟨g, 14, none⟩ = some (.int .i64 6) := hcell 14 _ rfl
  clear hcell hown1 hown2
  go_wp2_with fail
  go_ret
  exact ⟨rfl, hb1.trans (hb2.mono hb1.size)⟩
end Go.Proofs.YtgacfcdpgcpjeaaDoor
