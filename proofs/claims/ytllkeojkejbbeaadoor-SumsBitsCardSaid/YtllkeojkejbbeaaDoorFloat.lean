/- Whole numbers below 2^53 as float64: sums, comparisons and the way back to int are exact. -/
import Derived.Laws.FloatArith
namespace Go.Proofs.YtllkeojkejbbeaaDoor.Fl
open Go Ieee

theorem shl (n k : Nat) : n <<< k = n * 2 ^ k := Nat.shiftLeft_eq n k

/-- the number n * 2^k stands with k places behind the point. -/
theorem cut_even (n k : Nat) : Toward.cut .even false (n <<< k) k = n := by
  unfold Toward.cut
  have hl : min k ((n <<< k).log2 + 2) = k ∨ n = 0 := by
    rcases Nat.eq_zero_or_pos n with h | h
    · exact .inr h
    · left
      have : k ≤ (n <<< k).log2 := by
        rw [Nat.le_log2 (by rw [shl]; exact Nat.pos_iff_ne_zero.1 (Nat.mul_pos h (Nat.two_pow_pos k)))]
        rw [shl]
        exact Nat.le_mul_of_pos_left _ h
      omega
  rcases hl with h | h
  · simp only [h]
    have e1 : n <<< k / 1 <<< k = n := by
      rw [shl, shl, Nat.one_mul, Nat.mul_div_cancel _ (Nat.two_pow_pos k)]
    have e2 : n <<< k % 1 <<< k = 0 := by
      rw [shl, shl, Nat.one_mul, Nat.mul_mod_left]
    have e3 : 0 < 1 <<< k := by rw [shl, Nat.one_mul]; exact Nat.two_pow_pos k
    rw [e1, e2]
    have e4 : ¬ (1 <<< k < 2 * 0) := by omega
    have e5 : (1 <<< k == 2 * 0) = false := by
      rw [beq_eq_false_iff_ne]; omega
    simp [e5]
  · subst h
    simp only [Nat.zero_shiftLeft, Nat.zero_div, Nat.zero_mod]
    simp

theorem cut_zero (n k : Nat) : Toward.cut .zero false (n <<< k) k = n := by
  unfold Toward.cut
  have hl : min k ((n <<< k).log2 + 2) = k ∨ n = 0 := by
    rcases Nat.eq_zero_or_pos n with h | h
    · exact .inr h
    · left
      have : k ≤ (n <<< k).log2 := by
        rw [Nat.le_log2 (by rw [shl]; exact Nat.pos_iff_ne_zero.1 (Nat.mul_pos h (Nat.two_pow_pos k)))]
        rw [shl]
        exact Nat.le_mul_of_pos_left _ h
      omega
  rcases hl with h | h
  · simp only [h]
    have e1 : n <<< k / 1 <<< k = n := by
      rw [shl, shl, Nat.one_mul, Nat.mul_div_cancel _ (Nat.two_pow_pos k)]
    rw [e1]; simp
  · subst h; simp

/-- n as a float64's word. -/
def W (n : Nat) : Nat := if n = 0 then 0 else (n.log2 + 1022) * 2 ^ 52 + n * 2 ^ (52 - n.log2)

theorem nearest_eq (n k : Nat) (hn : n < 2 ^ 53) : double.nearest false (n <<< k) (-(k : Int)) = W n := by
  unfold Format.nearest W
  rcases Nat.eq_zero_or_pos n with h0 | h0
  · subst h0; simp [Format.word]
  have hne : n <<< k ≠ 0 := by rw [shl]; exact Nat.pos_iff_ne_zero.1 (Nat.mul_pos h0 (Nat.two_pow_pos k))
  have hlog : (n <<< k).log2 = n.log2 + k := by
    rw [shl]
    apply (Nat.log2_eq_iff (by rw [← shl]; exact hne)).2
    have h1 := Nat.log2_self_le (Nat.pos_iff_ne_zero.1 h0)
    have h2 := @Nat.lt_log2_self n
    constructor
    · rw [Nat.pow_add]; exact Nat.mul_le_mul_right _ h1
    · rw [show n.log2 + k + 1 = (n.log2 + 1) + k by omega, Nat.pow_add]
      exact Nat.mul_lt_mul_of_pos_right h2 (Nat.two_pow_pos k)
  have hl52 : n.log2 < 53 := (Nat.log2_lt (Nat.pos_iff_ne_zero.1 h0)).2 hn
  have hlp : double.leastPlace = -1074 := by decide
  have hfb : (double.fractionBits : Int) = 52 := by decide
  rw [if_neg hne, if_neg (Nat.pos_iff_ne_zero.1 h0)]
  simp only [hlog, hlp, hfb]
  have hlast : max (-(k : Int) + ((n.log2 + k : Nat) : Int) - 52) (-1074) = (n.log2 : Int) - 52 := by omega
  rw [hlast]
  have hkept : Toward.cut .even false ((n <<< k) <<< (-(k : Int) - ((n.log2 : Int) - 52)).toNat) ((n.log2 : Int) - 52 - -(k : Int)).toNat = n * 2 ^ (52 - n.log2) := by
    by_cases hk : k + n.log2 ≤ 52
    · have e1 : (-(k : Int) - ((n.log2 : Int) - 52)).toNat = 52 - n.log2 - k := by omega
      have e2 : ((n.log2 : Int) - 52 - -(k : Int)).toNat = 0 := by omega
      rw [e1, e2]
      have := cut_even ((n <<< k) <<< (52 - n.log2 - k)) 0
      rw [Nat.shiftLeft_zero] at this
      rw [this, shl, shl, Nat.mul_assoc, ← Nat.pow_add]
      congr 2; omega
    · have e1 : (-(k : Int) - ((n.log2 : Int) - 52)).toNat = 0 := by omega
      have e2 : ((n.log2 : Int) - 52 - -(k : Int)).toNat = k - (52 - n.log2) := by omega
      rw [e1, e2, Nat.shiftLeft_zero]
      have := cut_even (n * 2 ^ (52 - n.log2)) (k - (52 - n.log2))
      rw [← this]
      congr 1
      rw [shl, shl, Nat.mul_assoc, ← Nat.pow_add]
      congr 2; omega
  rw [hkept]
  have e3 : ((n.log2 : Int) - 52 - -1074).toNat = n.log2 + 1022 := by omega
  rw [e3]
  have hb : double.binade = 2 ^ 52 := by decide
  rw [hb]
  have hmul : n * 2 ^ (52 - n.log2) < 2 ^ 53 := by
    have h2 := @Nat.lt_log2_self n
    have : n * 2 ^ (52 - n.log2) < 2 ^ (n.log2 + 1) * 2 ^ (52 - n.log2) := Nat.mul_lt_mul_of_pos_right h2 (Nat.two_pow_pos _)
    rw [← Nat.pow_add] at this
    rw [show n.log2 + 1 + (52 - n.log2) = 53 by omega] at this
    exact this
  have hinf : double.infRung = 2047 * 2 ^ 52 := by decide
  rw [hinf, Nat.min_eq_left (by omega)]
  rfl

theorem nearest_nat (n : Nat) (hn : n < 2 ^ 53) : double.nearest false n 0 = W n := by
  simpa using nearest_eq n 0 hn

theorem read_W (n : Nat) (hn : n < 2 ^ 53) : ∃ k : Nat, double.read (W n) = .number false (n <<< k) (-(k : Int)) := by
  rcases Nat.eq_zero_or_pos n with h0 | h0
  · subst h0; exact ⟨1074, by decide⟩
  refine ⟨52 - n.log2, ?_⟩
  have hl52 : n.log2 < 53 := (Nat.log2_lt (Nat.pos_iff_ne_zero.1 h0)).2 hn
  have h1 := Nat.log2_self_le (Nat.pos_iff_ne_zero.1 h0)
  have h2 := @Nat.lt_log2_self n
  have hlo : 2 ^ 52 ≤ n * 2 ^ (52 - n.log2) := by
    have := Nat.mul_le_mul_right (2 ^ (52 - n.log2)) h1
    rw [← Nat.pow_add, show n.log2 + (52 - n.log2) = 52 by omega] at this
    exact this
  have hhi : n * 2 ^ (52 - n.log2) < 2 ^ 53 := by
    have : n * 2 ^ (52 - n.log2) < 2 ^ (n.log2 + 1) * 2 ^ (52 - n.log2) := Nat.mul_lt_mul_of_pos_right h2 (Nat.two_pow_pos _)
    rw [← Nat.pow_add] at this
    rw [show n.log2 + 1 + (52 - n.log2) = 53 by omega] at this
    exact this
  have hsw : double.signWeight = 2 ^ 63 := by decide
  have hb : double.binade = 2 ^ 52 := by decide
  have hinf : double.infRung = 2047 * 2 ^ 52 := by decide
  have hlp : double.leastPlace = -1074 := by decide
  have hW : W n = (n.log2 + 1022) * 2 ^ 52 + n * 2 ^ (52 - n.log2) := if_neg (Nat.pos_iff_ne_zero.1 h0)
  generalize hM : n * 2 ^ (52 - n.log2) = M at hlo hhi hW
  unfold Format.read
  simp only [hsw, hb, hinf, hlp, shl, hM]
  have e1 : W n / 2 ^ 63 % 2 = 0 := by rw [hW]; omega
  have e2 : W n % 2 ^ 63 = W n := by rw [hW]; omega
  have e3 : ¬ W n < 2 ^ 52 := by rw [hW]; omega
  have e4 : W n < 2047 * 2 ^ 52 := by rw [hW]; omega
  have e5 : 2 ^ 52 + W n % 2 ^ 52 = M := by rw [hW]; omega
  have e6 : (-1074 : Int) + ((W n / 2 ^ 52 - 1 : Nat) : Int) = -((52 - n.log2 : Nat) : Int) := by rw [hW]; omega
  rw [e1, e2, if_neg e3, if_pos e4, e5, e6]
  rfl

theorem signed_shl (n k u : Nat) : signed false (n <<< k) u = ((n * 2 ^ (k + u) : Nat) : Int) := by
  unfold signed
  rw [if_neg (by simp), shl, shl, Nat.mul_assoc, ← Nat.pow_add]

theorem add_W (n m : Nat) (h : n + m < 2 ^ 53) : double.add (W n) (W m) = some (W (n + m)) := by
  obtain ⟨k, hk⟩ := read_W n (by omega)
  obtain ⟨l, hl⟩ := read_W m (by omega)
  unfold Format.add
  rw [hk, hl]
  simp only [Datum.sum, signed_shl, Option.map_some]
  have e1 : k + (-(k : Int) - min (-(k : Int)) (-(l : Int))).toNat = max k l := by omega
  have e2 : l + (-(l : Int) - min (-(k : Int)) (-(l : Int))).toNat = max k l := by omega
  have e3 : min (-(k : Int)) (-(l : Int)) = -((max k l : Nat) : Int) := by omega
  rw [e1, e2, e3]
  have e4 : ((n * 2 ^ max k l : Nat) : Int) + ((m * 2 ^ max k l : Nat) : Int) = (((n + m) <<< max k l : Nat) : Int) := by
    rw [shl, Nat.add_mul]; push_cast; rfl
  rw [e4, Int.natAbs_natCast]
  have e5 : (if (((n + m) <<< max k l : Nat) : Int) = 0 then (false && false) else decide ((((n + m) <<< max k l : Nat) : Int) < 0)) = false := by
    split
    · rfl
    · exact decide_eq_false (by omega)
  rw [e5]
  simp only [Format.write]
  rw [nearest_eq _ _ h]

theorem order_W (n m : Nat) (hn : n < 2 ^ 53) (hm : m < 2 ^ 53) : double.order (W n) (W m) = some (compare n m) := by
  obtain ⟨k, hk⟩ := read_W n hn
  obtain ⟨l, hl⟩ := read_W m hm
  unfold Format.order
  rw [hk, hl]
  simp only [Datum.order, signed_shl]
  have e1 : k + (-(k : Int) - min (-(k : Int)) (-(l : Int))).toNat = max k l := by omega
  have e2 : l + (-(l : Int) - min (-(k : Int)) (-(l : Int))).toNat = max k l := by omega
  rw [e1, e2]
  have hp := Nat.two_pow_pos (max k l)
  congr 1
  rw [Int.compare_eq_ite_lt, Nat.compare_eq_ite_lt]
  have a1 : ((n * 2 ^ max k l : Nat) : Int) < ((m * 2 ^ max k l : Nat) : Int) ↔ n < m := by
    rw [Int.ofNat_lt]; exact Nat.mul_lt_mul_right hp
  have a2 : ((m * 2 ^ max k l : Nat) : Int) < ((n * 2 ^ max k l : Nat) : Int) ↔ m < n := by
    rw [Int.ofNat_lt]; exact Nat.mul_lt_mul_right hp
  simp only [a1, a2]

theorem toInt_W (n : Nat) (hn : n < 2 ^ 53) : (double.read (W n)).toInt .zero = some (n : Int) := by
  obtain ⟨k, hk⟩ := read_W n hn
  rw [hk]
  simp only [Datum.toInt, Datum.integral]
  have e1 : (-(k : Int)).toNat = 0 := by omega
  have e2 : (-(-(k : Int))).toNat = k := by omega
  rw [e1, e2, Nat.shiftLeft_zero, cut_zero]
  simp [signed]

theorem ofInt_W (n : Int) (h0 : 0 ≤ n) (hn : n < 2 ^ 53) : floatOfInt .f64 n = W n.toNat := by
  have e : floatOfInt .f64 n = double.nearest (decide (n < 0)) n.natAbs 0 := rfl
  rw [e, decide_eq_false (by omega), ← nearest_nat _ (by omega)]
  congr 1
  omega

theorem addBits (n m : Nat) (h : n + m < 2 ^ 53) : floatBits .add .f64 (W n) (W m) = some (W (n + m)) := add_W n m h

theorem toIntBits (n : Nat) (hn : n < 2 ^ 53) : floatToIntVal .f64 (W n) .i64 = some (n : Int) := by
  unfold floatToIntVal
  have : (FloatKind.decode .f64 (W n)).toInt .zero = some (n : Int) := toInt_W n hn
  rw [this]
  have h1 : IntKind.min .i64 ≤ (n : Int) := by
    have : IntKind.min .i64 = -2 ^ 63 := by decide
    rw [this]; omega
  have h2 : (n : Int) ≤ IntKind.max .i64 := by
    have : IntKind.max .i64 = 2 ^ 63 - 1 := by decide
    rw [this]; omega
  show (if IntKind.min .i64 ≤ (n : Int) ∧ (n : Int) ≤ IntKind.max .i64 then some (n : Int) else none) = _
  exact if_pos ⟨h1, h2⟩

theorem orderBits (n m : Nat) (hn : n < 2 ^ 53) (hm : m < 2 ^ 53) : (FloatKind.format .f64).order (W n) (W m) = some (compare n m) := order_W n m hn hm

theorem W_one : W 1 = 0x3ff0000000000000 := by decide
theorem W_zero : W 0 = 0 := by decide
theorem W_max : W (2 ^ 40) = 0x4270000000000000 := by decide

end Go.Proofs.YtllkeojkejbbeaaDoor.Fl
