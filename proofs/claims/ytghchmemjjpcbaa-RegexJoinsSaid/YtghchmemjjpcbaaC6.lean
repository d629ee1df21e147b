/- A part of the proof: tools. No condition. -/
import Derived.Test.YtghchmemjjpcbaaC4
set_option linter.all false
namespace Go.Ab.R05j
set_option maxRecDepth 100000
set_option linter.all false
set_option maxHeartbeats 4000000
def pop : Nat → Nat → Nat
 | 0, _ => 0
 | k + 1, n => n % 2 + pop k (n / 2)
theorem pop_add (a b n : Nat) : pop (a + b) n = pop a n + pop b (n / 2 ^ a) := by
 induction a generalizing n with
 | zero => simp [pop]
 | succ a ih =>
   rw [show a + 1 + b = (a + b) + 1 by omega]
   simp only [pop]
   rw [ih (n / 2), Nat.div_div_eq_div_mul, ← Nat.pow_succ', Nat.add_assoc]
theorem pop_mod (a n : Nat) : pop a (n % 2 ^ a) = pop a n := by
 induction a generalizing n with
 | zero => simp [pop]
 | succ a ih =>
   simp only [pop]
   have h1 : n % 2 ^ (a + 1) % 2 = n % 2 := Nat.mod_mod_of_dvd _ ⟨2 ^ a, by rw [Nat.pow_succ']⟩
   have h2 : n % 2 ^ (a + 1) / 2 = n / 2 % 2 ^ a := by
    rw [Nat.pow_succ', Nat.mod_mul_right_div_self]
   rw [h1, h2, ih]
theorem or_mod2 (n m : Nat) : (n ||| m) % 2 = 1 ↔ (n % 2 = 1 ∨ m % 2 = 1) := by
 have e := @Nat.testBit_or n m 0
 simp only [Nat.testBit_zero] at e
 rw [Bool.eq_iff_iff] at e
 simpa only [Bool.or_eq_true, decide_eq_true_eq] using e
theorem pop_le_or (k n m : Nat) : pop k n ≤ pop k (n ||| m) := by
 induction k generalizing n m with
 | zero => simp [pop]
 | succ k ih =>
   simp only [pop]
   have h1 : (n ||| m) / 2 = n / 2 ||| m / 2 := Nat.or_div_two
   have h2 : n % 2 ≤ (n ||| m) % 2 := by
    have e := or_mod2 n m
    omega
   have := ih (n / 2) (m / 2)
   rw [h1]; omega
theorem pop_set (k n c : Nat) (hc : c < k) (hn : n.testBit c = false) : pop k (n ||| 2 ^ c) = pop k n + 1 := by
 induction k generalizing n c with
 | zero => omega
 | succ k ih =>
   simp only [pop]
   have h1 : (n ||| 2 ^ c) / 2 = n / 2 ||| 2 ^ c / 2 := Nat.or_div_two
   have e := or_mod2 n (2 ^ c)
   rcases c with _ | c
   ·simp only [Nat.testBit_zero, decide_eq_false_iff_not] at hn
    rw [h1]
    rw [show (2 : Nat) ^ 0 / 2 = 0 by rfl, Nat.or_zero]
    rw [show (2 : Nat) ^ 0 % 2 = 1 by rfl] at e
    omega
   ·have h3 : 2 ^ (c + 1) / 2 = 2 ^ c := by rw [Nat.pow_succ]; omega
    have h4 : 2 ^ (c + 1) % 2 = 0 := by rw [Nat.pow_succ]; omega
    rw [h4] at e
    rw [h1, h3]
    have := ih (n / 2) c (by omega) (by rw [Nat.testBit_succ] at hn; exact hn)
    rw [this]
    omega
theorem andB {a b c d : Nat} (ha : a < 256) (hc : c < 256) : (a + 256 * b) &&& (c + 256 * d) = (a &&& c) + 256 * (b &&& d) := by
 have key : ∀ x y : Nat, x < 256 → ∀ i, (x + 256 * y).testBit i = if i < 8 then x.testBit i else y.testBit (i - 8) := by
  intro x y hx i
  rw [show x + 256 * y = 2 ^ 8 * y + x by omega, Nat.testBit_two_pow_mul_add y hx]
 have hac : a &&& c < 256 := Nat.lt_of_le_of_lt Nat.and_le_left ha
 apply Nat.eq_of_testBit_eq
 intro i
 rw [Nat.testBit_and, key _ _ ha, key _ _ hc, key _ _ hac]
 split <;> simp
def f1 (M w : Nat) : Nat := (w / 2 &&& M) + (w &&& M)
def f2 (M w : Nat) : Nat := (w / 4 &&& M) + (w &&& M)
def f3 (M w : Nat) : Nat := (w / 16 + w) &&& M
theorem f1_dec : ∀ a : Nat, a < 256 → (a / 2 + 128 &&& 85) = (a / 2 &&& 85) ∧ f1 85 a < 256 := by decide +kernel
theorem f1_step (a b M : Nat) (ha : a < 256) : f1 (85 + 256 * M) (a + 256 * b) = f1 85 a + 256 * f1 M b := by
 unfold f1
 have h1 : (a + 256 * b) / 2 = (a / 2 + 128 * (b % 2)) + 256 * (b / 2) := by omega
 rw [h1, andB (by omega) (by omega), andB ha (by omega)]
 have h2 : (a / 2 + 128 * (b % 2)) &&& 85 = a / 2 &&& 85 := by
  rcases Nat.mod_two_eq_zero_or_one b with h | h <;> rw [h]
  ·simp
  ·exact (f1_dec a ha).1
 rw [h2]
 omega
theorem f2_dec : ∀ a : Nat, a < 256 → (∀ r, r < 4 → (a / 4 + 64 * r &&& 51) = (a / 4 &&& 51)) ∧ f2 51 a < 256 := by decide +kernel
theorem f2_step (a b M : Nat) (ha : a < 256) : f2 (51 + 256 * M) (a + 256 * b) = f2 51 a + 256 * f2 M b := by
 unfold f2
 have h1 : (a + 256 * b) / 4 = (a / 4 + 64 * (b % 4)) + 256 * (b / 4) := by omega
 rw [h1, andB (by omega) (by omega), andB ha (by omega)]
 rw [(f2_dec a ha).1 _ (by omega)]
 omega
def m1 : Nat → Nat
 | 0 => 0
 | k + 1 => 85 + 256 * m1 k
def m2 : Nat → Nat
 | 0 => 0
 | k + 1 => 51 + 256 * m2 k
def m3 : Nat → Nat
 | 0 => 0
 | k + 1 => 15 + 256 * m3 k
def f12 (k w : Nat) : Nat := f2 (m2 k) (f1 (m1 k) w)
theorem f12_step (k a b : Nat) (ha : a < 256) : f12 (k + 1) (a + 256 * b) = f2 51 (f1 85 a) + 256 * f12 k b := by
 unfold f12
 show f2 (51 + 256 * m2 k) (f1 (85 + 256 * m1 k) _) = _
 rw [f1_step _ _ _ ha, f2_step _ _ _ (f1_dec a ha).2]
theorem f12_dec : ∀ a : Nat, a < 256 → f2 51 (f1 85 a) % 16 ≤ 4 ∧ f2 51 (f1 85 a) / 16 ≤ 4 ∧ ∀ r, r ≤ 4 → ((f2 51 (f1 85 a) / 16 + 16 * r + f2 51 (f1 85 a)) &&& 15) = pop 8 a := by decide +kernel
theorem f12_zero (w : Nat) : f12 0 w = 0 := by
 unfold f12 f2 f1 m1 m2; simp
theorem f12_low (k b : Nat) : f12 k b % 16 ≤ 4 := by
 rcases k with _ | k
 ·rw [f12_zero]; omega
 ·have := f12_step k (b % 256) (b / 256) (by omega)
  rw [show b % 256 + 256 * (b / 256) = b by omega] at this
  rw [this]
  have := (f12_dec (b % 256) (by omega)).1
  omega
def f123 (k w : Nat) : Nat := f3 (m3 k) (f12 k w)
theorem f123_step (k a b : Nat) (ha : a < 256) : f123 (k + 1) (a + 256 * b) = pop 8 a + 256 * f123 k b := by
 unfold f123
 rw [f12_step _ _ _ ha]
 show f3 (15 + 256 * m3 k) _ = _
 have hl := f12_low k b
 obtain ⟨h1, h2, h3⟩ := f12_dec a ha
 have h3 := h3 _ hl
 generalize f12 k b = y at *
 generalize f2 51 (f1 85 a) = x at *
 unfold f3
 have h4 : (x + 256 * y) / 16 + (x + 256 * y) = (x / 16 + 16 * (y % 16) + x) + 256 * (y / 16 + y) := by omega
 rw [h4, andB (by omega) (by omega), h3]
def sh (w : Nat) : Nat := let x := f123 8 w; let y := x + x / 2 ^ 8; let z := y + y / 2 ^ 16; (z + z / 2 ^ 32) &&& 127
theorem pop8_le : ∀ a : Nat, a < 256 → pop 8 a ≤ 8 := by decide +kernel
theorem f123_bytes (w : Nat) (hw : w < 2 ^ 64) : ∃ p0 p1 p2 p3 p4 p5 p6 p7, f123 8 w = p0 + 256 * (p1 + 256 * (p2 + 256 * (p3 + 256 * (p4 + 256 * (p5 + 256 * (p6 + 256 * p7)))))) ∧ p0 ≤ 8 ∧ p1 ≤ 8 ∧ p2 ≤ 8 ∧ p3 ≤ 8 ∧ p4 ≤ 8 ∧ p5 ≤ 8 ∧ p6 ≤ 8 ∧ p7 ≤ 8 ∧ pop 64 w = p0 + p1 + p2 + p3 + p4 + p5 + p6 + p7 := by
 have st : ∀ k v, f123 (k + 1) v = pop 8 (v % 256) + 256 * f123 k (v / 256) := fun k v => by
  have := f123_step k (v % 256) (v / 256) (by omega)
  rwa [show v % 256 + 256 * (v / 256) = v by omega] at this
 have pt : ∀ k v, pop (8 + k) v = pop 8 (v % 256) + pop k (v / 256) := fun k v => by
  rw [pop_add, ← pop_mod 8 v]
 have z : ∀ v, f123 0 v = 0 := fun v => by unfold f123 f3 m3; simp
 have le : ∀ v, pop 8 (v % 256) ≤ 8 := fun v => pop8_le _ (by omega)
 refine ⟨_, _, _, _, _, _, _, _, ?_, le w, le (w / 256), le (w / 256 / 256), le (w / 256 / 256 / 256), le (w / 256 / 256 / 256 / 256), le (w / 256 / 256 / 256 / 256 / 256), le (w / 256 / 256 / 256 / 256 / 256 / 256), le (w / 256 / 256 / 256 / 256 / 256 / 256 / 256), ?_⟩
 ·rw [st 7, st 6, st 5, st 4, st 3, st 2, st 1, st 0, z]
  rfl
 ·rw [show (64 : Nat) = 8 + 56 by rfl, pt 56, show (56 : Nat) = 8 + 48 by rfl, pt 48, show (48 : Nat) = 8 + 40 by rfl, pt 40, show (40 : Nat) = 8 + 32 by rfl, pt 32, show (32 : Nat) = 8 + 24 by rfl, pt 24, show (24 : Nat) = 8 + 16 by rfl, pt 16, show (16 : Nat) = 8 + 8 by rfl, pt 8, ← pop_mod 8 (w / 256 / 256 / 256 / 256 / 256 / 256 / 256), show (2 : Nat) ^ 8 = 256 from rfl]
  omega
theorem sh_eq (w : Nat) (hw : w < 2 ^ 64) : sh w = pop 64 w ∧ pop 64 w ≤ 64 ∧ f123 8 w ≤ 2 ^ 60 := by
 obtain ⟨p0, p1, p2, p3, p4, p5, p6, p7, e, h0, h1, h2, h3, h4, h5, h6, h7, hp⟩ := f123_bytes w hw
 refine ⟨?_, by omega, by omega⟩
 unfold sh
 simp only
 rw [e, hp]
 rw [show (127 : Nat) = 2 ^ 7 - 1 by rfl, Nat.and_two_pow_sub_one_eq_mod]
 have dv : ∀ x q m c : Nat, x = q + m * c → q < m → x / m = c := fun x q m c h hq => by
  subst h
  rw [Nat.add_mul_div_left _ _ (by omega), Nat.div_eq_of_lt hq, Nat.zero_add]
 have hx : (p0 + 256 * (p1 + 256 * (p2 + 256 * (p3 + 256 * (p4 + 256 * (p5 + 256 * (p6 + 256 * (p7)))))))) / 2 ^ 8 = p1 + 256 * (p2 + 256 * (p3 + 256 * (p4 + 256 * (p5 + 256 * (p6 + 256 * (p7)))))) := dv _ p0 _ _ rfl (by omega)
 have hy : p0 + 256 * (p1 + 256 * (p2 + 256 * (p3 + 256 * (p4 + 256 * (p5 + 256 * (p6 + 256 * (p7))))))) + (p1 + 256 * (p2 + 256 * (p3 + 256 * (p4 + 256 * (p5 + 256 * (p6 + 256 * (p7))))))) = (p0 + p1) + 256 * ((p1 + p2) + 256 * ((p2 + p3) + 256 * ((p3 + p4) + 256 * ((p4 + p5) + 256 * ((p5 + p6) + 256 * ((p6 + p7) + 256 * (p7))))))) := by clear h0 h1 h2 h3 h4 h5 h6 h7 hp e hx dv; omega
 have hx2 : ((p0 + p1) + 256 * ((p1 + p2) + 256 * ((p2 + p3) + 256 * ((p3 + p4) + 256 * ((p4 + p5) + 256 * ((p5 + p6) + 256 * ((p6 + p7) + 256 * (p7)))))))) / 2 ^ 16 = (p2 + p3) + 256 * ((p3 + p4) + 256 * ((p4 + p5) + 256 * ((p5 + p6) + 256 * ((p6 + p7) + 256 * (p7))))) := dv _ ((p0 + p1) + 256 * (p1 + p2)) _ _ (by clear h0 h1 h2 h3 h4 h5 h6 h7 hp e hx hy dv; omega) (by clear hx hy dv hp e; omega)
 have hz : (p0 + p1) + 256 * ((p1 + p2) + 256 * ((p2 + p3) + 256 * ((p3 + p4) + 256 * ((p4 + p5) + 256 * ((p5 + p6) + 256 * ((p6 + p7) + 256 * (p7))))))) + ((p2 + p3) + 256 * ((p3 + p4) + 256 * ((p4 + p5) + 256 * ((p5 + p6) + 256 * ((p6 + p7) + 256 * (p7)))))) = (p0 + p1 + p2 + p3) + 256 * ((p1 + p2 + p3 + p4) + 256 * ((p2 + p3 + p4 + p5) + 256 * ((p3 + p4 + p5 + p6) + 256 * ((p4 + p5 + p6 + p7) + 256 * ((p5 + p6 + p7) + 256 * ((p6 + p7) + 256 * (p7))))))) := by clear h0 h1 h2 h3 h4 h5 h6 h7 hp e hx hx2 hy dv; omega
 have hx4 : ((p0 + p1 + p2 + p3) + 256 * ((p1 + p2 + p3 + p4) + 256 * ((p2 + p3 + p4 + p5) + 256 * ((p3 + p4 + p5 + p6) + 256 * ((p4 + p5 + p6 + p7) + 256 * ((p5 + p6 + p7) + 256 * ((p6 + p7) + 256 * (p7)))))))) / 2 ^ 32 = (p4 + p5 + p6 + p7) + 256 * ((p5 + p6 + p7) + 256 * ((p6 + p7) + 256 * (p7))) := dv _ ((p0 + p1 + p2 + p3) + 256 * (p1 + p2 + p3 + p4) + 65536 * (p2 + p3 + p4 + p5) + 16777216 * (p3 + p4 + p5 + p6)) _ _ (by clear h0 h1 h2 h3 h4 h5 h6 h7 hp e hx hx2 hy hz dv; omega) (by clear hx hx2 hy hz dv hp e; omega)
 have hu : (p0 + p1 + p2 + p3) + 256 * ((p1 + p2 + p3 + p4) + 256 * ((p2 + p3 + p4 + p5) + 256 * ((p3 + p4 + p5 + p6) + 256 * ((p4 + p5 + p6 + p7) + 256 * ((p5 + p6 + p7) + 256 * ((p6 + p7) + 256 * (p7))))))) + ((p4 + p5 + p6 + p7) + 256 * ((p5 + p6 + p7) + 256 * ((p6 + p7) + 256 * (p7)))) = (p0 + p1 + p2 + p3 + p4 + p5 + p6 + p7) + 2 ^ 7 * (2 * ((p1 + p2 + p3 + p4 + p5 + p6 + p7) + 256 * ((p2 + p3 + p4 + p5 + p6 + p7) + 256 * ((p3 + p4 + p5 + p6 + p7) + 256 * ((p4 + p5 + p6 + p7) + 256 * ((p5 + p6 + p7) + 256 * ((p6 + p7) + 256 * (p7)))))))) := by clear h0 h1 h2 h3 h4 h5 h6 h7 hp e hx hx2 hx4 hy hz dv; omega
 rw [hx, hy, hx2, hz, hx4, hu, Nat.add_mul_mod_self_left, Nat.mod_eq_of_lt (by clear hx hx2 hx4 hy hz hu dv hp e; omega)]
theorem masks : m1 8 = 6148914691236517205 ∧ m2 8 = 3689348814741910323 ∧ m3 8 = 1085102592571150095 := by decide
end Go.Ab.R05j
