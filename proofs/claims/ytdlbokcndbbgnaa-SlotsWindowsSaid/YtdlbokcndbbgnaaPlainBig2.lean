/- Numbers as digits: a digit of a quotient; division. -/
import Derived.Test.YtdlbokcndbbgnaaPlainBig
namespace Go.Proofs.Ytdlbokcndbbgnaa.BG
theorem top_split (l : List Nat) (hl : ok l) (n a b : Nat) (hn : l.length = n + 2) (hb : l[n]? = some b) (ha : l[n + 1]? = some a) : (a * B + b) * B ^ n ≤ val l ∧ val l < (a * B + b + 1) * B ^ n ∧ val l = val (l.take n) + B ^ n * b + B ^ (n + 1) * a := by
  have h1 : val l = val (l.take n) + B ^ n * b + B ^ (n + 1) * a := by
    rw [← val_take_succ hb, ← val_take_succ ha, val_take_end (by omega)]
  have h2 := val_lt (ok_take hl n)
  rw [List.length_take, Nat.min_eq_left (by omega)] at h2
  have h3 : (a * B + b) * B ^ n = B ^ n * b + B ^ (n + 1) * a := by
    have f1 : B ^ (n + 1) * a = a * B * B ^ n := by rw [Nat.pow_succ, Nat.mul_comm, Nat.mul_comm (B ^ n), Nat.mul_assoc]
    rw [f1, Nat.add_mul, Nat.mul_comm b]
    omega
  rw [Nat.add_mul _ 1, h3]
  omega
theorem tops_of {ps vs : List Nat} {n a b c v1 v2 : Nat} (hp : ok ps) (hv : ok vs) (hpn : ps.length = n + 3) (hvn : vs.length = n + 2) (hc : ps[n]? = some c) (hb : ps[n + 1]? = some b) (ha : ps[n + 2]? = some a) (h2 : vs[n]? = some v2) (h1 : vs[n + 1]? = some v1) (hh : 2147483648 ≤ v1) (hlt : val ps < B * val vs) : Tops (n + 2) (val ps) (val vs) (a * B + b) v1 v2 c := by
  obtain ⟨t1, t2, t3⟩ := top_split vs hv n v1 v2 hvn h2 h1
  have e1 : val ps = val (ps.take n) + B ^ n * c + B ^ (n + 1) * b + B ^ (n + 2) * a := by
    rw [← val_take_succ hc, ← val_take_succ hb, ← val_take_succ ha, val_take_end (by omega)]
  have e2 := val_lt (ok_take hp n)
  rw [List.length_take, Nat.min_eq_left (by omega)] at e2
  have e3 : ((a * B + b) * B + c) * B ^ n = B ^ n * c + B ^ (n + 1) * b + B ^ (n + 2) * a := by
    have f1 : B ^ (n + 1) * b = b * B * B ^ n := by rw [Nat.pow_succ, Nat.mul_comm, Nat.mul_comm (B ^ n), Nat.mul_assoc]
    have f2 : B ^ (n + 2) * a = a * B * B * B ^ n := by rw [Nat.pow_succ, Nat.pow_succ, Nat.mul_comm, Nat.mul_comm (B ^ n * B), Nat.mul_comm (B ^ n), Nat.mul_assoc, Nat.mul_assoc]
    rw [f1, f2, Nat.add_mul, Nat.add_mul, Nat.add_mul, Nat.mul_comm c]
    omega
  refine ⟨by omega, ok_at hv h1, hh, ok_at hv h2, ok_at hp hc, t1, t2, ?_, ?_, hlt⟩
  · show ((a * B + b) * B + c) * B ^ n ≤ val ps
    rw [e3, e1]; omega
  · show val ps < ((a * B + b) * B + c + 1) * B ^ n
    rw [Nat.add_mul _ 1, e3, e1]; omega
theorem step_sub2 {nw g va u q c bo x y t d b' : Nat} (h : nw + g * va = u + q * (c + bo)) (ht : g * x + c = t) (hd : d + t % B + bo = y + B * b') :
    (nw + q * d) + g * (va + q * x) = (u + q * y) + (q * B) * (t / B + b') := by
  have h1 := Nat.mod_add_div t B
  have h2 : q * (g * x) + q * c = q * t := by rw [← Nat.mul_add, ht]
  have h3 : q * (t % B) + (q * B) * (t / B) = q * t := by rw [Nat.mul_assoc, ← Nat.mul_add, h1]
  have h4 : q * y + (q * B) * b' = q * d + q * (t % B) + q * bo := by rw [Nat.mul_assoc, ← Nat.mul_add, ← hd, Nat.mul_add, Nat.mul_add]
  have h5 : g * (q * x) = q * (g * x) := by rw [Nat.mul_left_comm]
  rw [Nat.mul_add g, Nat.mul_add (q * B), h5]
  rw [Nat.mul_add q] at h
  omega
/-- The end of the subtraction. -/
theorem fin_sub {nw q V u c bo dn yn b' P Bp N U : Nat} (h : nw + q * V = u + P * (c + bo)) (hd : dn + c + bo = yn + B * b') (hN : N = nw + P * dn) (hU : U = u + P * yn) (hP : Bp = P * B) : N + q * V = U + Bp * b' := by
  subst hN hU hP
  have h1 : P * dn + P * c + P * bo = P * yn + P * B * b' := by rw [← Nat.mul_add, ← Nat.mul_add, hd, Nat.mul_add, Nat.mul_assoc]
  rw [Nat.mul_add] at h
  omega
theorem fin_ok {N q V U : Nat} (hV : 0 < V) (h : N + q * V = U) (hq : U / V ≤ q) : q = U / V ∧ N = U % V := by
  have h1 : q ≤ U / V := by rw [Nat.le_div_iff_mul_le hV]; omega
  have h2 : q = U / V := by omega
  have h3 := Nat.div_add_mod U V
  rw [Nat.mul_comm] at h3
  refine ⟨h2, ?_⟩
  rw [← h2] at h3
  omega
theorem fin_back {N q V U P nw old dn c : Nat} (hV : 0 < V) (hVP : V ≤ P) (hnw : nw < P) (h : N + q * V = U + P * B) (hN : N = old + P * dn) (hNlt : N < P * B) (hq : q ≤ U / V + 1) (hb : nw + P * c = old + V) : q - 1 = U / V ∧ nw = U % V ∧ dn + c = B := by
  have h1 : ¬ q ≤ U / V := fun hle => by
    have := (Nat.le_div_iff_mul_le hV).1 hle
    omega
  have h2 : q = U / V + 1 := by omega
  have h3 := Nat.div_add_mod U V
  rw [Nat.mul_comm] at h3
  have h4 := Nat.mod_lt U hV
  generalize U / V = k at *
  generalize U % V = r at *
  subst h2
  rw [Nat.add_mul] at h
  have h5 : nw + P * (dn + c) = P * B + r := by rw [Nat.mul_add]; omega
  have h6 : dn + c = B := by
    rcases Nat.lt_trichotomy (dn + c) B with h | h | h
    · have : P * (dn + c + 1) ≤ P * B := Nat.mul_le_mul_left _ h
      rw [Nat.mul_add] at this
      omega
    · exact h
    · have : P * (B + 1) ≤ P * (dn + c) := Nat.mul_le_mul_left _ h
      rw [Nat.mul_add] at this
      omega
  rw [h6] at h5
  exact ⟨by omega, by omega, h6⟩
/-- One digit of a long division. -/
theorem long_step {A V Q R lo W q r P : Nat} (hA : A = R + P * B * V * Q) (hR : R = lo + P * W) (hW : W = q * V + r) : A = (lo + P * r) + P * V * (q + B * Q) := by
  subst hA hR hW
  have e1 : P * B * V * Q = P * V * (B * Q) := by rw [Nat.mul_assoc P B V, Nat.mul_comm B V, ← Nat.mul_assoc P V B, Nat.mul_assoc (P * V) B Q]
  have e2 : P * (q * V + r) = P * V * q + P * r := by rw [Nat.mul_add, Nat.mul_comm q V, Nat.mul_assoc]
  rw [e1, e2, Nat.mul_add (P * V)]
  omega
theorem shift_div (a b s : Nat) (hs : 0 < s) (_hb : 0 < b) : a * s / (b * s) = a / b ∧ (a * s) % (b * s) = (a % b) * s := ⟨Nat.mul_div_mul_right _ _ hs, Nat.mul_mod_mul_right _ _ _⟩
end Go.Proofs.Ytdlbokcndbbgnaa.BG
