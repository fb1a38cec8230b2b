/- The model made; pending jobs; the candidates of a slot. -/
import Derived.Test.YtpmbhdheeaejgaaGreatDoorSlD
import Derived.Laws.MakeOwn
namespace Go.Proofs.YtpmbhdheeaejgaaGreatDoor
open Go.RowKit Go.Maps
open SL (Tk Jb Ms Cd)
theorem made_flat (z : List Value) (d : Nat) (hz : z.length = d) : ∀ n, (madeCells z.toArray (n * d)) = ((List.replicate n ()).flatMap fun _ => z).toArray := by
  intro n
  apply Array.ext_getElem?
  intro i
  unfold madeCells
  rw [Array.getElem?_map]
  have hl : ((List.replicate n ()).flatMap fun _ => z).length = n * d := by rw [flat_len d _ (fun _ => hz)]; simp
  by_cases hi : i < n * d
  · have hd : 0 < d := by rcases Nat.eq_zero_or_pos d with h | h; subst h; simp at hi; exact h
    rw [show (Array.range (n * d))[i]? = some i from by simp [hi], List.getElem?_toArray]
    have hk : i / d < n := Nat.div_lt_of_lt_mul (by rw [Nat.mul_comm]; exact hi)
    have h1 := flat_at d (fun _ : Unit => z) (fun _ => hz) (List.replicate n ()) (i / d) (i % d) () (by simp [hk]) (Nat.mod_lt _ hd)
    rw [show i / d * d + i % d = i from by rw [Nat.mul_comm]; exact Nat.div_add_mod i d] at h1
    rw [h1]
    have h2 : i % d < z.length := by rw [hz]; exact Nat.mod_lt _ hd
    simp [hz]
    rw [List.getElem?_eq_getElem h2]
    rfl
  · rw [show (Array.range (n * d))[i]? = none from by simp; omega, List.getElem?_toArray, List.getElem?_eq_none (by omega)]
    rfl
theorem jb0_made (n : Nat) : madeCells #[.bool false, .int .i64 0, .int .i64 0, .int .i64 0] (n * 4) = jbC (List.replicate n SL.jb0) := by
  rw [show (#[.bool false, .int .i64 0, .int .i64 0, .int .i64 0] : Array Value) = [Value.bool false, .int .i64 0, .int .i64 0, .int .i64 0].toArray from rfl, made_flat _ 4 rfl]
  unfold jbC
  congr 1
  induction n with
  | zero => rfl
  | succ n ih => rw [List.replicate_succ, List.replicate_succ, List.flatMap_cons, List.flatMap_cons, ih]; rfl
section
set_option maxHeartbeats 1000000
set_option maxRecDepth 100000
/-- A task of the plan, in whatever world the plan still lies in. -/
theorem MC.task {B : World} {M : Mdl} (hmc : MC B M) {k : Nat} {t : Tk} (ht : M.ts[k]? = some t) : ∃ tb to_, M.A = some ⟨tb, to_, none⟩ ∧ ∀ W, Below B.heap.size B W →
    W.cell? ⟨tb, to_ + k * 3, none⟩ = some (.string t.name) ∧ W.cell? ⟨tb, to_ + k * 3 + 1, none⟩ = some (.int .i64 t.cost) ∧ W.cell? ⟨tb, to_ + k * 3 + 2, none⟩ = some (.int .i64 t.per) := by
  obtain ⟨tb, to_, hA, _⟩ := hmc.row.tk ht
  refine ⟨tb, to_, hA, fun W hb => ?_⟩
  obtain ⟨tb', to_', hA', _, h0, h1, h2⟩ := (hmc.row.below hb).tk ht
  rw [hA] at hA'
  injection hA' with hA'
  injection hA' with e1 e2
  subst e1 e2
  exact ⟨h0, h1, h2⟩
theorem MC.okt {B : World} {M : Mdl} (hmc : MC B M) {k : Nat} {t : Tk} (ht : M.ts[k]? = some t) : SL.okTk t = true := by
  have := hmc.ok; unfold SL.okTs at this; simp only [Bool.and_eq_true, List.all_eq_true] at this
  exact this.2 t (List.mem_of_getElem? ht)
theorem MC.n40 {B : World} {M : Mdl} (hmc : MC B M) : M.ts.length ≤ 40 := by
  have := hmc.ok; unfold SL.okTs at this; simp at this; exact this.1
end
end Go.Proofs.YtpmbhdheeaejgaaGreatDoor
