/- Quotients of whole numbers, rounded to the nearest: the rung of a quotient, by what it must satisfy. Plain numbers, no program. -/
import Derived.WalkKit
namespace Go.Proofs.YtapjajclmbpjmaaGreatDoor.Rnd

/-- k is the whole number nearest to p / q; between two, the even one. -/
structure Near (p q k : Nat) : Prop where
  lo : 2 * k * q ≤ 2 * p + q
  hi : 2 * p ≤ 2 * k * q + q
  elo : 2 * k * q = 2 * p + q → k % 2 = 0
  ehi : 2 * p = 2 * k * q + q → k % 2 = 0

/-- R is the rung of a / b. -/
def Quo (a b R : Nat) : Prop :=
  ∃ u v k : Nat, 2 ^ u * b ≤ a * 2 ^ v ∧ a * 2 ^ v < 2 ^ (u + 1) * b ∧ Near (a * 2 ^ (52 + v)) (b * 2 ^ u) k ∧ v ≤ 1022 + u ∧ R = (1022 + u - v) * 4503599627370496 + k

theorem near_ge {p q k c : Nat} (h : Near p q k) (hq : 0 < q) (hc : c * q ≤ p) : c ≤ k := by
  rcases Nat.lt_or_ge k c with hlt | hge
  · exfalso
    have h1 : (k + 1) * q ≤ c * q := Nat.mul_le_mul_right q hlt
    have h2 := h.hi
    have e : 2 * k * q = 2 * (k * q) := by rw [Nat.mul_assoc]
    have e2 : (k + 1) * q = k * q + q := by rw [Nat.add_mul, Nat.one_mul]
    omega
  · exact hge
theorem near_le {p q k c : Nat} (h : Near p q k) (hq : 0 < q) (hc : p < c * q) : k ≤ c := by
  rcases Nat.lt_or_ge c k with hlt | hge
  · exfalso
    have h1 : (c + 1) * q ≤ k * q := Nat.mul_le_mul_right q hlt
    have h2 := h.lo
    have e : 2 * k * q = 2 * (k * q) := by rw [Nat.mul_assoc]
    have e2 : (c + 1) * q = c * q + q := by rw [Nat.add_mul, Nat.one_mul]
    omega
  · exact hge

theorem near_mono {p q k p' q' k' : Nat} (h : Near p q k) (h' : Near p' q' k') (hq : 0 < q) (hq' : 0 < q') (hle : p * q' ≤ p' * q) : k ≤ k' := by
  rcases Nat.lt_or_ge k' k with hlt | hge
  · exfalso
    have z : 0 < q * q' := Nat.mul_pos hq hq'
    have a1 : 2 * k * q * q' ≤ (2 * p + q) * q' := Nat.mul_le_mul_right q' h.lo
    have a2 : 2 * p' * q ≤ (2 * k' * q' + q') * q := Nat.mul_le_mul_right q h'.hi
    have e1 : 2 * k * q * q' = 2 * (k * (q * q')) := by simp only [Nat.mul_assoc]
    have e2 : (2 * p + q) * q' = 2 * (p * q') + q * q' := by rw [Nat.add_mul, Nat.mul_assoc]
    have e3 : 2 * p' * q = 2 * (p' * q) := by rw [Nat.mul_assoc]
    have e4 : (2 * k' * q' + q') * q = 2 * (k' * (q * q')) + q * q' := by
      rw [Nat.add_mul, Nat.mul_comm q' q]
      congr 1
      simp only [Nat.mul_assoc, Nat.mul_comm q' q]
    have hk : (k' + 1) * (q * q') ≤ k * (q * q') := Nat.mul_le_mul_right _ hlt
    have e5 : (k' + 1) * (q * q') = k' * (q * q') + q * q' := by rw [Nat.add_mul, Nat.one_mul]
    -- all in between are equalities
    have t1 : k * (q * q') = k' * (q * q') + q * q' := by omega
    have t2 : 2 * (k * (q * q')) = 2 * (p * q') + q * q' := by omega
    have t3 : 2 * (p' * q) = 2 * (k' * (q * q')) + q * q' := by omega
    have k1 : k = k' + 1 := by
      have : k * (q * q') = (k' + 1) * (q * q') := by omega
      exact Nat.eq_of_mul_eq_mul_right z this
    have x1 : 2 * k * q = 2 * p + q := by
      have : (2 * k * q) * q' = (2 * p + q) * q' := by omega
      exact Nat.eq_of_mul_eq_mul_right hq' this
    have x2 : 2 * p' = 2 * k' * q' + q' := by
      have : (2 * p') * q = (2 * k' * q' + q') * q := by omega
      exact Nat.eq_of_mul_eq_mul_right hq this
    have y1 := h.elo x1
    have y2 := h'.ehi x2
    omega
  · exact hge

theorem quo_parts {a b R : Nat} (h : Quo a b R) (hb : 0 < b) : ∃ u v k, 2 ^ u * b ≤ a * 2 ^ v ∧ a * 2 ^ v < 2 ^ (u + 1) * b ∧ Near (a * 2 ^ (52 + v)) (b * 2 ^ u) k ∧ v ≤ 1022 + u ∧ R = (1022 + u - v) * 4503599627370496 + k ∧ 4503599627370496 ≤ k ∧ k ≤ 9007199254740992 := by
  obtain ⟨u, v, k, h1, h2, h3, h4, h5⟩ := h
  have hq : 0 < b * 2 ^ u := Nat.mul_pos hb (Nat.two_pow_pos u)
  have ep : a * 2 ^ (52 + v) = 4503599627370496 * (a * 2 ^ v) := by
    rw [Nat.pow_add, show (2 : Nat) ^ 52 = 4503599627370496 by rfl]; ac_rfl
  have e1 : 2 ^ u * b = b * 2 ^ u := Nat.mul_comm _ _
  have e2 : 2 ^ (u + 1) * b = 2 * (b * 2 ^ u) := by rw [Nat.pow_succ]; ac_rfl
  refine ⟨u, v, k, h1, h2, h3, h4, h5, near_ge h3 hq ?_, near_le h3 hq ?_⟩
  · rw [ep, ← e1]; exact Nat.mul_le_mul_left _ h1
  · rw [ep]
    have : 9007199254740992 * (b * 2 ^ u) = 4503599627370496 * (2 * (b * 2 ^ u)) := by omega
    rw [this, ← e2]
    exact Nat.mul_lt_mul_of_pos_left h2 (by omega)

/-- The exponents go with the quotients. -/
theorem exp_mono {a b c d u v u' v' : Nat} (hb : 0 < b) (hle : a * d ≤ c * b) (h1 : 2 ^ u * b ≤ a * 2 ^ v) (h2 : c * 2 ^ v' < 2 ^ (u' + 1) * d) : u + v' ≤ u' + v := by
  rcases Nat.lt_or_ge (u' + v) (u + v') with hlt | hge
  · exfalso
    have hp : 2 ^ (u' + 1) * 2 ^ v ≤ 2 ^ u * 2 ^ v' := by
      rw [← Nat.pow_add, ← Nat.pow_add]; exact Nat.pow_le_pow_right (by omega) (by omega)
    have z : 0 < b * 2 ^ v := Nat.mul_pos hb (Nat.two_pow_pos v)
    have s1 : c * 2 ^ v' * (b * 2 ^ v) < 2 ^ (u' + 1) * d * (b * 2 ^ v) := Nat.mul_lt_mul_of_pos_right h2 z
    have s2 : 2 ^ (u' + 1) * d * (b * 2 ^ v) = 2 ^ (u' + 1) * 2 ^ v * (d * b) := by ac_rfl
    have s3 : 2 ^ (u' + 1) * 2 ^ v * (d * b) ≤ 2 ^ u * 2 ^ v' * (d * b) := Nat.mul_le_mul_right _ hp
    have s4 : 2 ^ u * 2 ^ v' * (d * b) = 2 ^ u * b * (d * 2 ^ v') := by ac_rfl
    have s5 : 2 ^ u * b * (d * 2 ^ v') ≤ a * 2 ^ v * (d * 2 ^ v') := Nat.mul_le_mul_right _ h1
    have s6 : a * 2 ^ v * (d * 2 ^ v') = a * d * (2 ^ v * 2 ^ v') := by ac_rfl
    have s7 : a * d * (2 ^ v * 2 ^ v') ≤ c * b * (2 ^ v * 2 ^ v') := Nat.mul_le_mul_right _ hle
    have s8 : c * b * (2 ^ v * 2 ^ v') = c * 2 ^ v' * (b * 2 ^ v) := by ac_rfl
    omega
  · exact hge

theorem quo_mono {a b c d R R' : Nat} (h : Quo a b R) (h' : Quo c d R') (hb : 0 < b) (hd : 0 < d) (hle : a * d ≤ c * b) : R ≤ R' := by
  obtain ⟨u, v, k, h1, h2, h3, h4, h5, k1, k2⟩ := quo_parts h hb
  obtain ⟨u', v', k', g1, g2, g3, g4, g5, j1, j2⟩ := quo_parts h' hd
  have he := exp_mono hb hle h1 g2
  by_cases heq : u + v' = u' + v
  · have hk : k ≤ k' := by
      refine near_mono h3 g3 (Nat.mul_pos hb (Nat.two_pow_pos u)) (Nat.mul_pos hd (Nat.two_pow_pos u')) ?_
      have e1 : a * 2 ^ (52 + v) * (d * 2 ^ u') = a * d * 2 ^ (52 + v + u') := by rw [Nat.pow_add 2 (52 + v) u']; generalize 2 ^ (52 + v) = P; generalize 2 ^ u' = Q; ac_rfl
      have e2 : c * 2 ^ (52 + v') * (b * 2 ^ u) = c * b * 2 ^ (52 + v' + u) := by rw [Nat.pow_add 2 (52 + v') u]; generalize 2 ^ (52 + v') = P; generalize 2 ^ u = Q; ac_rfl
      rw [e1, e2, show 52 + v' + u = 52 + v + u' by omega]
      exact Nat.mul_le_mul_right _ hle
    have : 1022 + u - v = 1022 + u' - v' := by omega
    rw [h5, g5, this]; omega
  · rw [h5, g5]
    have : 1022 + u - v + 1 ≤ 1022 + u' - v' := by omega
    have := Nat.mul_le_mul_right 4503599627370496 this
    omega

theorem quo_unique {a b c d R R' : Nat} (h : Quo a b R) (h' : Quo c d R') (hb : 0 < b) (hd : 0 < d) (he : a * d = c * b) : R = R' :=
  Nat.le_antisymm (quo_mono h h' hb hd (Nat.le_of_eq he)) (quo_mono h' h hd hb (Nat.le_of_eq he.symm))

/-- Two quotients that are not great, and not the same, have two rungs. -/
theorem quo_strict {a b c d R R' : Nat} (h : Quo a b R) (h' : Quo c d R') (hb : 0 < b) (hd : 0 < d) (hlt : a * d < c * b) (hs : b * c < 1125899906842624) : R < R' := by
  have hle := quo_mono h h' hb hd (Nat.le_of_lt hlt)
  rcases Nat.lt_or_ge R R' with hlt' | hge
  · exact hlt'
  · exfalso
    have hR : R = R' := by omega
    obtain ⟨u, v, k, h1, h2, h3, h4, h5, k1, k2⟩ := quo_parts h hb
    obtain ⟨u', v', k', g1, g2, g3, g4, g5, j1, j2⟩ := quo_parts h' hd
    have he := exp_mono hb (Nat.le_of_lt hlt) h1 g2
    -- k of the first, in units of the second
    have key : 2 * (k * 2 ^ (u + v')) ≤ 2 * (k' * 2 ^ (u' + v)) ∧ 2 * (k' * 2 ^ (u' + v)) ≤ 2 * (k * 2 ^ (u + v')) := by
      by_cases heq : u + v' = u' + v
      · have e : 1022 + u - v = 1022 + u' - v' := by omega
        have : k = k' := by rw [h5, g5, e] at hR; omega
        rw [heq, this]; exact ⟨Nat.le_refl _, Nat.le_refl _⟩
      · have e1 : (1022 + u - v + 1) * 4503599627370496 ≤ (1022 + u' - v') * 4503599627370496 := Nat.mul_le_mul_right _ (by omega)
        have e2 : 1022 + u' - v' = 1022 + u - v + 1 ∨ 1022 + u - v + 2 ≤ 1022 + u' - v' := by omega
        rcases e2 with e2 | e2
        · have hk : k = 9007199254740992 := by rw [h5, g5, e2] at hR; omega
          have hk' : k' = 4503599627370496 := by rw [h5, g5, e2] at hR; omega
          have e3 : u' + v = (u + v') + 1 := by omega
          rw [hk, hk', e3, Nat.pow_succ]
          omega
        · have e3 : (1022 + u - v + 2) * 4503599627370496 ≤ (1022 + u' - v') * 4503599627370496 := Nat.mul_le_mul_right _ e2
          rw [h5, g5] at hR
          omega
    -- the two bounds, multiplied out
    have p1 := h3.lo
    have p2 := g3.hi
    have q1 : 2 ^ (u + v') ≤ 2 ^ (u' + v) := Nat.pow_le_pow_right (by omega) he
    have hW : 0 < 2 ^ v * 2 ^ v' := Nat.mul_pos (Nat.two_pow_pos v) (Nat.two_pow_pos v')
    have w1 : (2 : Nat) ^ (52 + v) = 4503599627370496 * 2 ^ v := by rw [Nat.pow_add]
    have w2 : (2 : Nat) ^ (52 + v') = 4503599627370496 * 2 ^ v' := by rw [Nat.pow_add]
    rw [w1] at p1
    rw [w2] at p2
    rw [Nat.pow_add, Nat.pow_add] at q1
    rw [Nat.pow_add, Nat.pow_add] at key
    clear w1 w2 h3 g3 h1 h2 g2 h5 g5 hR hle hge he h h' h4 g4
    generalize 2 ^ u = U at *
    generalize 2 ^ v = V at *
    generalize 2 ^ u' = U' at *
    generalize 2 ^ v' = V' at *
    have s1 := Nat.mul_le_mul_right (d * V') p1
    have s2 := Nat.mul_le_mul_right (b * V) p2
    have s3 := Nat.mul_le_mul_right (b * V) g1
    have s4 := Nat.mul_le_mul_right (V * V') (show a * d + 1 ≤ c * b from hlt)
    have s5 := Nat.mul_le_mul_right (b * d) q1
    have s6 := Nat.mul_le_mul_right (b * d) key.2
    have s6' := Nat.mul_le_mul_right (b * d) key.1
    have s7 : b * c * (V * V') < 1125899906842624 * (V * V') := Nat.mul_lt_mul_of_pos_right hs hW
    generalize hK : k * (b * d) * (U * V') = K at *
    generalize hK' : k' * (b * d) * (U' * V) = K' at *
    generalize hX : b * d * (U * V') = X at *
    generalize hY : b * d * (U' * V) = Y at *
    generalize hP : a * d * (V * V') = P at *
    generalize hQ : b * c * (V * V') = Q at *
    generalize hZ : V * V' = Z at *
    have r1 : 2 * K ≤ 2 * (4503599627370496 * P) + X := by
      have e1 : 2 * k * (b * U) * (d * V') = 2 * K := by rw [← hK]; ac_rfl
      have e2 : (2 * (a * (4503599627370496 * V)) + b * U) * (d * V') = 2 * (4503599627370496 * P) + X := by
        rw [← hP, ← hX, ← hZ, Nat.add_mul]; ac_rfl
      rw [e1, e2] at s1; exact s1
    have r2 : 2 * (4503599627370496 * Q) ≤ 2 * K' + Y := by
      have e1 : 2 * (c * (4503599627370496 * V')) * (b * V) = 2 * (4503599627370496 * Q) := by rw [← hQ, ← hZ]; ac_rfl
      have e2 : (2 * k' * (d * U') + d * U') * (b * V) = 2 * K' + Y := by
        rw [← hK', ← hY, Nat.add_mul]; ac_rfl
      rw [e1, e2] at s2; exact s2
    have r3 : Y ≤ Q := by
      have e1 : U' * d * (b * V) = Y := by rw [← hY]; ac_rfl
      have e2 : c * V' * (b * V) = Q := by rw [← hQ, ← hZ]; ac_rfl
      rw [e1, e2] at s3; exact s3
    have r4 : P + Z ≤ Q := by
      have e1 : (a * d + 1) * Z = P + Z := by rw [← hP, Nat.add_mul, Nat.one_mul]
      have e2 : c * b * Z = Q := by rw [← hQ]; ac_rfl
      rw [e1, e2] at s4; exact s4
    have r5 : X ≤ Y := by
      have e1 : U * V' * (b * d) = X := by rw [← hX]; ac_rfl
      have e2 : U' * V * (b * d) = Y := by rw [← hY]; ac_rfl
      rw [e1, e2] at s5; exact s5
    have r6 : 2 * K' ≤ 2 * K := by
      have e1 : 2 * (k' * (U' * V)) * (b * d) = 2 * K' := by rw [← hK']; ac_rfl
      have e2 : 2 * (k * (U * V')) * (b * d) = 2 * K := by rw [← hK]; ac_rfl
      rw [e1, e2] at s6; exact s6
    omega
end Go.Proofs.YtapjajclmbpjmaaGreatDoor.Rnd
