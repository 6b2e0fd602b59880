/- How many bits of a word are set, by the means of math/bits.OnesCount64: plain numbers, no program. -/
import Derived.WalkKit
import Derived.Laws.BitsAllLaws
namespace Go.Proofs.YtapjajclmbpjmaaGreatDoor.Pop

/-- How many of the bits below r are set. -/
def cb (x : Nat) : Nat → Nat
  | 0 => 0
  | r + 1 => cb x r + (x.testBit r).toNat

theorem cb_le (x : Nat) : ∀ r, cb x r ≤ r
  | 0 => Nat.le_refl _
  | r + 1 => by
    have := cb_le x r
    have h : (x.testBit r).toNat ≤ 1 := by cases x.testBit r <;> simp
    simp only [cb]; omega
theorem cb_congr {x y : Nat} : ∀ r, (∀ j, j < r → x.testBit j = y.testBit j) → cb x r = cb y r
  | 0, _ => rfl
  | r + 1, h => by
    simp only [cb]
    rw [cb_congr r (fun j hj => h j (by omega)), h r (by omega)]
theorem cb_nil (x : Nat) : cb x 0 = 0 := rfl
theorem cb_succ (x r : Nat) : cb x (r + 1) = cb x r + (x.testBit r).toNat := rfl
theorem cb_zero_from {x : Nat} {r : Nat} (h : ∀ j, r ≤ j → x.testBit j = false) : ∀ k, cb x (r + k) = cb x r
  | 0 => rfl
  | k + 1 => by
    have e : cb x (r + (k + 1)) = cb x (r + k) + (x.testBit (r + k)).toNat := rfl
    rw [e, h (r + k) (by omega), cb_zero_from h k]; rfl
/-- Cut below r the bits that are left are those. -/
theorem cb_mod (x r n : Nat) (h : r ≤ n) : cb (x % 2 ^ r) n = cb x r := by
  obtain ⟨k, rfl⟩ : ∃ k, n = r + k := ⟨n - r, by omega⟩
  rw [cb_zero_from (r := r) (fun j hj => by rw [Nat.testBit_mod_two_pow]; simp; omega) k]
  exact cb_congr r (fun j hj => by rw [Nat.testBit_mod_two_pow]; simp [hj])

def val : List Nat → Nat
  | [] => 0
  | b :: t => b + 256 * val t

theorem cb_cat (m b q : Nat) (hb : b < 2 ^ m) : ∀ k, cb (2 ^ m * q + b) (m + k) = cb b m + cb q k
  | 0 => by
    rw [Nat.add_zero]
    show _ = cb b m + 0
    rw [Nat.add_zero]
    refine cb_congr m (fun j hj => ?_)
    rw [Nat.testBit_two_pow_mul_add q hb j, if_pos hj]
  | k + 1 => by
    rw [← Nat.add_assoc, cb_succ, cb_succ, cb_cat m b q hb k, Nat.testBit_two_pow_mul_add q hb (m + k), if_neg (by omega), show m + k - m = k by omega]
    omega
theorem cb_byte (b q : Nat) (hb : b < 256) (k : Nat) : cb (b + 256 * q) (8 + k) = cb b 8 + cb q k := by
  rw [Nat.add_comm b]; exact cb_cat 8 b q hb k

theorem and_byte (a b c d : Nat) (hb : b < 256) (hd : d < 256) : (b + 256 * a) &&& (d + 256 * c) = (b &&& d) + 256 * (a &&& c) := by
  have hbd : b &&& d < 2 ^ 8 := Nat.lt_of_le_of_lt Nat.and_le_left hb
  apply Nat.eq_of_testBit_eq
  intro j
  rw [show b + 256 * a = 2 ^ 8 * a + b by omega, show d + 256 * c = 2 ^ 8 * c + d by omega, show (b &&& d) + 256 * (a &&& c) = 2 ^ 8 * (a &&& c) + (b &&& d) by omega]
  rw [Nat.testBit_and, Nat.testBit_two_pow_mul_add a (i := 8) (b := b) hb, Nat.testBit_two_pow_mul_add c (i := 8) (b := d) hd, Nat.testBit_two_pow_mul_add _ (i := 8) hbd]
  split <;> simp [Nat.testBit_and]

def f1 (r : Nat) : Nat := ((r / 2) &&& 85) + (r &&& 85)
def f2 (r : Nat) : Nat := ((r / 4) &&& 51) + (r &&& 51)
def f3 (r : Nat) : Nat := (r / 16 + r) &&& 15

theorem low1 : ∀ (c : Fin 2) (r : Fin 256), ((128 * c.val + r.val / 2) &&& 85) = (r.val / 2 &&& 85) := by decide +kernel
theorem low2 : ∀ (c : Fin 4) (r : Fin 256), ((64 * c.val + r.val / 4) &&& 51) = (r.val / 4 &&& 51) := by decide +kernel
theorem low3 : ∀ (c : Fin 5) (r : Fin 69), 16 * c.val + r.val / 16 + r.val < 256 ∧ ((16 * c.val + r.val / 16 + r.val) &&& 15) = f3 r.val := by decide +kernel
theorem all1 : ∀ r : Fin 256, f1 r.val < 256 ∧ f2 (f1 r.val) < 69 ∧ f2 (f1 r.val) % 16 < 5 ∧ f3 (f2 (f1 r.val)) ≤ 8 ∧ f3 (f2 (f1 r.val)) = cb r.val 8 := by decide +kernel

attribute [local irreducible] cb

theorem step1 : ∀ l : List Nat, (∀ r ∈ l, r < 256) → ((val l / 2) &&& val (l.map fun _ => 85)) + (val l &&& val (l.map fun _ => 85)) = val (l.map f1)
  | [], _ => by simp [val]
  | r :: t, h => by
    have ih := step1 t (fun x hx => h x (by simp [hx]))
    have hr := h r (by simp)
    simp only [List.map_cons, val]
    have e : (r + 256 * val t) / 2 = (128 * (val t % 2) + r / 2) + 256 * (val t / 2) := by omega
    rw [e, and_byte _ _ _ _ (by omega) (by omega), and_byte _ _ _ _ hr (by omega)]
    have hl := low1 ⟨val t % 2, by omega⟩ ⟨r, hr⟩
    simp only at hl
    rw [hl, ← ih]
    unfold f1
    omega
theorem step2 : ∀ l : List Nat, (∀ r ∈ l, r < 256) → ((val l / 4) &&& val (l.map fun _ => 51)) + (val l &&& val (l.map fun _ => 51)) = val (l.map f2)
  | [], _ => by simp [val]
  | r :: t, h => by
    have ih := step2 t (fun x hx => h x (by simp [hx]))
    have hr := h r (by simp)
    simp only [List.map_cons, val]
    have e : (r + 256 * val t) / 4 = (64 * (val t % 4) + r / 4) + 256 * (val t / 4) := by omega
    rw [e, and_byte _ _ _ _ (by omega) (by omega), and_byte _ _ _ _ hr (by omega)]
    have hl := low2 ⟨val t % 4, by omega⟩ ⟨r, hr⟩
    simp only at hl
    rw [hl, ← ih]
    unfold f2
    omega
theorem val_mod16 : ∀ l : List Nat, (∀ r ∈ l, r < 69 ∧ r % 16 < 5) → val l % 16 < 5
  | [], _ => by simp [val]
  | r :: t, h => by have := (h r (by simp)).2; simp only [val]; omega
theorem step3 : ∀ l : List Nat, (∀ r ∈ l, r < 69 ∧ r % 16 < 5) → ((val l / 16 + val l) &&& val (l.map fun _ => 15)) = val (l.map f3)
  | [], _ => by simp [val]
  | r :: t, h => by
    have ih := step3 t (fun x hx => h x (by simp [hx]))
    have hr := (h r (by simp)).1
    have hm := val_mod16 t (fun x hx => h x (by simp [hx]))
    simp only [List.map_cons, val]
    have hl := low3 ⟨val t % 16, hm⟩ ⟨r, hr⟩
    simp only at hl
    have e : (r + 256 * val t) / 16 + (r + 256 * val t) = (16 * (val t % 16) + r / 16 + r) + 256 * (val t / 16 + val t) := by omega
    rw [e, and_byte _ _ _ _ hl.1 (by omega), hl.2, ih]

/-- The bytes of a word. -/
def bytes (x : Nat) : List Nat := [x % 256, x / 256 % 256, x / 65536 % 256, x / 16777216 % 256, x / 4294967296 % 256, x / 1099511627776 % 256, x / 281474976710656 % 256, x / 72057594037927936 % 256]
theorem val_bytes (x : Nat) (h : x < 18446744073709551616) : val (bytes x) = x := by
  simp only [bytes, val]
  omega
theorem bytes_lt (x : Nat) : ∀ r ∈ bytes x, r < 256 := by
  intro r hr
  simp only [bytes, List.mem_cons, List.not_mem_nil, or_false] at hr
  omega

/-- What the three steps with masks make of a word: of each byte how many of its bits are set. -/
theorem swar (x : Nat) (h : x < 18446744073709551616) : ∃ p : List Nat, p = (bytes x).map (fun r => cb r 8) ∧
    ∃ y1 y2 : Nat, y1 = ((x / 2) &&& 6148914691236517205) + (x &&& 6148914691236517205) ∧ y1 < 18446744073709551616 ∧
      y2 = ((y1 / 4) &&& 3689348814741910323) + (y1 &&& 3689348814741910323) ∧ y2 < 18446744073709551616 ∧ y2 / 16 + y2 < 18446744073709551616 ∧
      ((y2 / 16 + y2) &&& 1085102592571150095) = val p := by
  have hb := bytes_lt x
  have s1 := step1 (bytes x) hb
  have hb1 : ∀ r ∈ (bytes x).map f1, r < 256 := by
    intro r hr; obtain ⟨y, hy, rfl⟩ := List.mem_map.1 hr; exact (all1 ⟨y, hb y hy⟩).1
  have s2 := step2 ((bytes x).map f1) hb1
  have hb2 : ∀ r ∈ ((bytes x).map f1).map f2, r < 69 ∧ r % 16 < 5 := by
    intro r hr
    obtain ⟨z, hz, rfl⟩ := List.mem_map.1 hr
    obtain ⟨y, hy, rfl⟩ := List.mem_map.1 hz
    exact ⟨(all1 ⟨y, hb y hy⟩).2.1, (all1 ⟨y, hb y hy⟩).2.2.1⟩
  have s3 := step3 (((bytes x).map f1).map f2) hb2
  have m1 : val ((bytes x).map fun _ => 85) = 6148914691236517205 := by simp only [bytes, List.map_cons, List.map_nil, val]
  have m2 : val (((bytes x).map f1).map fun _ => 51) = 3689348814741910323 := by simp only [bytes, List.map_cons, List.map_nil, val]
  have m3 : val ((((bytes x).map f1).map f2).map fun _ => 15) = 1085102592571150095 := by simp only [bytes, List.map_cons, List.map_nil, val]
  rw [m1, val_bytes x h] at s1
  rw [m2] at s2
  rw [m3] at s3
  have lt1 : val ((bytes x).map f1) < 18446744073709551616 := by
    have := hb1
    simp only [bytes, List.map_cons, List.map_nil, List.mem_cons, List.not_mem_nil, or_false, forall_eq_or_imp, forall_eq] at this
    simp only [bytes, List.map_cons, List.map_nil, val]
    omega
  have lt2 : val (((bytes x).map f1).map f2) / 16 + val (((bytes x).map f1).map f2) < 18446744073709551616 := by
    have := hb2
    simp only [bytes, List.map_cons, List.map_nil, List.mem_cons, List.not_mem_nil, or_false, forall_eq_or_imp, forall_eq] at this
    simp only [bytes, List.map_cons, List.map_nil, val]
    omega
  refine ⟨_, rfl, _, _, rfl, by rw [s1]; exact lt1, rfl, ?_, ?_, ?_⟩
  · rw [s1, s2]; omega
  · rw [s1, s2]; exact lt2
  · rw [s1, s2, s3]
    rw [List.map_map, List.map_map]
    rw [List.map_congr_left (g := fun r => cb r 8) (fun y hy => (all1 ⟨y, hb y hy⟩).2.2.2.2)]

theorem cb_val : ∀ l : List Nat, (∀ r ∈ l, r < 256) → cb (val l) (8 * l.length) = (l.map (fun r => cb r 8)).sum
  | [], _ => cb_nil _
  | b :: t, h => by
    rw [List.length_cons, show 8 * (t.length + 1) = 8 + 8 * t.length by omega, val, cb_byte b (val t) (h b (by simp)), cb_val t (fun r hr => h r (by simp [hr])), List.map_cons, List.sum_cons]

theorem cb_bytes (x : Nat) (h : x < 18446744073709551616) : cb x 64 = ((bytes x).map (fun r => cb r 8)).sum := by
  have e := cb_val (bytes x) (bytes_lt x)
  rw [val_bytes x h] at e
  exact e

theorem fold8 (a b c d e f g h : Nat) (h0 : a ≤ 8) (h1 : b ≤ 8) (h2 : c ≤ 8) (h3 : d ≤ 8) (h4 : e ≤ 8) (h5 : f ≤ 8) (h6 : g ≤ 8) (h7 : h ≤ 8) (v y4 y5 y6 : Nat)
    (hv : v = a + 256 * (b + 256 * (c + 256 * (d + 256 * (e + 256 * (f + 256 * (g + 256 * h)))))))
    (k4 : y4 = v + v / 256) (k5 : y5 = y4 + y4 / 65536) (k6 : y6 = y5 + y5 / 4294967296) :
    y4 < 18446744073709551616 ∧ y5 < 18446744073709551616 ∧ y6 < 9223372036854775808 ∧ y6 % 128 = a + b + c + d + e + f + g + h := by
  have e4 : v / 256 = b + 256 * (c + 256 * (d + 256 * (e + 256 * (f + 256 * (g + 256 * h))))) := by omega
  have f4 : y4 = (a + b) + 256 * ((b + c) + 256 * ((c + d) + 256 * ((d + e) + 256 * ((e + f) + 256 * ((f + g) + 256 * ((g + h) + 256 * h)))))) := by omega
  clear k4 e4 hv
  have e5 : y4 / 65536 = (c + d) + 256 * ((d + e) + 256 * ((e + f) + 256 * ((f + g) + 256 * ((g + h) + 256 * h)))) := by omega
  have f5 : y5 = (a + b + c + d) + 256 * ((b + c + d + e) + 256 * ((c + d + e + f) + 256 * ((d + e + f + g) + 256 * ((e + f + g + h) + 256 * ((f + g + h) + 256 * ((g + h) + 256 * h)))))) := by omega
  have b4 : y4 < 18446744073709551616 := by omega
  clear k5 e5 f4
  have e6 : y5 / 4294967296 = (e + f + g + h) + 256 * ((f + g + h) + 256 * ((g + h) + 256 * h)) := by omega
  have b5 : y5 < 18446744073709551616 := by omega
  have f6 : y6 = (a + b + c + d + e + f + g + h) + 256 * ((b + c + d + e + f + g + h) + 256 * ((c + d + e + f + g + h) + 256 * ((d + e + f + g + h) + 256 * ((e + f + g + h) + 256 * ((f + g + h) + 256 * ((g + h) + 256 * h)))))) := by omega
  clear k6 e6 f5
  exact ⟨b4, b5, by omega, by omega⟩

/-- The sum of the bytes of a number, each not above 8. -/
theorem fold (x : Nat) (v y4 y5 y6 : Nat) (hv : v = val ((bytes x).map (fun r => cb r 8))) (k4 : y4 = v + v / 256) (k5 : y5 = y4 + y4 / 65536) (k6 : y6 = y5 + y5 / 4294967296) :
    y4 < 18446744073709551616 ∧ y5 < 18446744073709551616 ∧ y6 < 9223372036854775808 ∧ y6 % 128 = ((bytes x).map (fun r => cb r 8)).sum := by
  obtain ⟨r1, r2, r3, r4⟩ := fold8 _ _ _ _ _ _ _ _ (cb_le (x % 256) 8) (cb_le (x / 256 % 256) 8) (cb_le (x / 65536 % 256) 8) (cb_le (x / 16777216 % 256) 8) (cb_le (x / 4294967296 % 256) 8) (cb_le (x / 1099511627776 % 256) 8) (cb_le (x / 281474976710656 % 256) 8) (cb_le (x / 72057594037927936 % 256) 8)
    v y4 y5 y6 (by rw [hv]; simp only [bytes, List.map_cons, List.map_nil, val, Nat.mul_zero, Nat.add_zero]) k4 k5 k6
  refine ⟨r1, r2, r3, ?_⟩
  rw [r4]
  simp only [bytes, List.map_cons, List.map_nil, List.sum_cons, List.sum_nil]
  omega
end Go.Proofs.YtapjajclmbpjmaaGreatDoor.Pop
