/- Check and Simulate at what is no plan. -/
import Derived.Test.YtgfojgabobakdaaSlV
namespace Go.Proofs.Ytgfojgabobakdaa
open Go.RowKit Go.Maps
open SL (Tk Jb Ms Cd)
section
set_option maxHeartbeats 1000000
set_option maxRecDepth 100000
theorem checkS_bad (M : Mdl) (cores : Int) (w : World) (hrow : Row w M.A (tkRow M.ts)) (hrel : RelV w M.rv M.rs) (hv : SL.valid M.ts cores M.rs = false) (hx : ∀ r ∈ M.rs, r.length ≤ maxLen ∧ ∀ x ∈ r, x ≤ 9223372036854775807) (hrl : M.rs.length ≤ maxLen) (s : Value) :
    Calls Try.prog 21 #[M.tv, .int .i64 cores, M.rv, s] w fun e w' => e = .returned (.tuple #[.slice none 0 0, .int .i64 1]) ∧ Below w.heap.size w w' := by
  have hnot : ∀ (x : Bool) (w : World), (Op.unary .not (.bool x)).run Try.prog w = .ok (.bool (!x)) w := fun _ _ => rfl
  have HVA := Lib.hid (valid_any M cores w hrow hrel hx hrl)
  rw [hv] at HVA
  rw [show M.tv = .slice M.A M.ts.length M.c from rfl, show M.rv = .slice M.rA M.rs.length M.rc from rfl] at HVA ⊢
  clear hrow hrel hv hx hrl
  go_enter Try.func21, Try.ntmps21
  go_wp2_with fail
  refine HVA.out.mono ?_
  rintro e w1 ⟨rfl, hg1⟩
  have HB1 := Lib.hid hg1.1
  clear hg1 HVA
  go_wp2_with fail
  go_ret2
  exact ⟨rfl, HB1.out⟩
theorem simulate_bad (M : Mdl) (cores u : Int) (w : World) (hrow : Row w M.A (tkRow M.ts)) (hrel : RelV w M.rv M.rs) (hv : SL.valid M.ts cores M.rs = false) (hx : ∀ r ∈ M.rs, r.length ≤ maxLen ∧ ∀ x ∈ r, x ≤ 9223372036854775807) (hrl : M.rs.length ≤ maxLen) :
    Calls Try.prog 10 #[M.tv, .int .i64 cores, M.rv, .int .i64 u] w fun e w' => e = .returned (.tuple #[.slice none 0 0, .slice none 0 0, .int .i64 1]) ∧ Below w.heap.size w w' := by
  have hnot : ∀ (x : Bool) (w : World), (Op.unary .not (.bool x)).run Try.prog w = .ok (.bool (!x)) w := fun _ _ => rfl
  have HVA := Lib.hid (valid_any M cores w hrow hrel hx hrl)
  rw [hv] at HVA
  rw [show M.tv = .slice M.A M.ts.length M.c from rfl, show M.rv = .slice M.rA M.rs.length M.rc from rfl] at HVA ⊢
  clear hrow hrel hv hx hrl
  go_enter Try.func10, Try.ntmps10
  go_wp2_with fail
  refine HVA.out.mono ?_
  rintro e w1 ⟨rfl, hg1⟩
  have HB1 := Lib.hid hg1.1
  clear hg1 HVA
  go_wp2_with fail
  go_ret3
  exact ⟨rfl, HB1.out⟩
theorem simulate_neg (M : Mdl) (cores u : Int) (w : World) (hrow : Row w M.A (tkRow M.ts)) (hrel : RelV w M.rv M.rs) (hv : SL.valid M.ts cores M.rs = true) (hx : ∀ r ∈ M.rs, r.length ≤ maxLen ∧ ∀ x ∈ r, x ≤ 9223372036854775807) (hrl : M.rs.length ≤ maxLen) (hu : u < 0) :
    Calls Try.prog 10 #[M.tv, .int .i64 cores, M.rv, .int .i64 u] w fun e w' => e = .returned (.tuple #[.slice none 0 0, .slice none 0 0, .int .i64 2]) ∧ Below w.heap.size w w' := by
  have hnot : ∀ (x : Bool) (w : World), (Op.unary .not (.bool x)).run Try.prog w = .ok (.bool (!x)) w := fun _ _ => rfl
  have HVA := Lib.hid (valid_any M cores w hrow hrel hx hrl)
  rw [hv] at HVA
  rw [show M.tv = .slice M.A M.ts.length M.c from rfl, show M.rv = .slice M.rA M.rs.length M.rc from rfl] at HVA ⊢
  have d1 : decide (u < 0) = true := decide_eq_true hu
  clear hrow hrel hv hx hrl hu
  go_enter Try.func10, Try.ntmps10
  go_wp2_with fail
  refine HVA.out.mono ?_
  rintro e w1 ⟨rfl, hg1⟩
  have HB1 := Lib.hid hg1.1
  clear hg1 HVA
  go_wp2_with fail
  go_ret3
  exact ⟨rfl, HB1.out⟩
end
end Go.Proofs.Ytgfojgabobakdaa
