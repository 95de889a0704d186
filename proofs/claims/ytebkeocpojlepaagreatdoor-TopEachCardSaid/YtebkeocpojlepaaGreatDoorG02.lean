/- Contracts and plain laws, put together: FloatP. -/
import Derived.Laws.FloatArith
/- Floats of 64 bits as whole multiples of 2 to the -1074: what a product by 8192, a difference from the whole part, a rounding give. Plain. -/
namespace Go.Proofs.YtebkeocpojlepaaGreatDoor
open Ieee

def rungF (w : Nat) : Nat := w % 9223372036854775808
def negF (w : Nat) : Bool := w / 9223372036854775808 % 2 == 1
def magF (r : Nat) : Nat := if r < 4503599627370496 then r else 4503599627370496 + r % 4503599627370496
def upF (r : Nat) : Nat := if r < 4503599627370496 then 0 else r / 4503599627370496 - 1
/-- the magnitude of a rung, in units of 2 to the -1074 -/
def valF (r : Nat) : Nat := magF r * 2 ^ upF r

theorem dbl_sign : Ieee.double.signWeight = 9223372036854775808 := by decide
theorem dbl_binade : Ieee.double.binade = 4503599627370496 := by decide
theorem dbl_inf : Ieee.double.infRung = 9218868437227405312 := by decide
theorem dbl_least : Ieee.double.leastPlace = -1074 := by decide

theorem read_num (w : Nat) (h : rungF w < 9218868437227405312) : Ieee.double.read w = .number (negF w) (magF (rungF w)) (-1074 + (upF (rungF w) : Int)) := by
  unfold Format.read
  simp only [dbl_sign, dbl_binade, dbl_inf, dbl_least]
  unfold rungF at *
  unfold negF magF upF
  by_cases h1 : w % 9223372036854775808 < 4503599627370496
  · simp [h1]
  · simp [h1, h]

theorem read_nan (w : Nat) (h : 9218868437227405312 < rungF w) : ∃ s f, Ieee.double.read w = .nan s f := by
  unfold Format.read
  simp only [dbl_sign, dbl_binade, dbl_inf, dbl_least]
  unfold rungF at *
  have h1 : ¬ w % 9223372036854775808 < 4503599627370496 := by omega
  have h2 : ¬ w % 9223372036854775808 < 9218868437227405312 := by omega
  have h3 : ¬ w % 9223372036854775808 = 9218868437227405312 := by omega
  simp [h1, h2, h3]

theorem read_infinity (w : Nat) (h : rungF w = 9218868437227405312) : Ieee.double.read w = .infinity (negF w) := by
  unfold Format.read
  simp only [dbl_sign, dbl_binade, dbl_inf, dbl_least]
  unfold rungF at *
  unfold negF
  simp [h]

theorem lay_mod (q c f : Nat) (h : f < c) : (q * c + f) % c = f := by rw [Nat.mul_comm, Nat.mul_add_mod, Nat.mod_eq_of_lt h]
theorem lay_div (q c f : Nat) (h : f < c) : (q * c + f) / c = q := by rw [Nat.mul_comm, Nat.mul_add_div (by omega), Nat.div_eq_of_lt h, Nat.add_zero]

theorem valF_step (r : Nat) : valF r < valF (r + 1) := by
  unfold valF magF upF
  by_cases h1 : r + 1 < 4503599627370496
  · simp [h1, show r < 4503599627370496 by omega]
  · by_cases h2 : r < 4503599627370496
    · have : r = 4503599627370495 := by omega
      subst this; decide
    · simp only [if_neg h1, if_neg h2]
      obtain ⟨q, f, hq, hf, hr⟩ : ∃ q f, 1 ≤ q ∧ f < 4503599627370496 ∧ r = q * 4503599627370496 + f := ⟨r / 4503599627370496, r % 4503599627370496, by omega, by omega, by omega⟩
      subst hr
      have e1 := lay_mod q 4503599627370496 f hf
      have e2 := lay_div q 4503599627370496 f hf
      obtain ⟨q, rfl⟩ : ∃ p, q = p + 1 := ⟨q - 1, (Nat.sub_add_cancel hq).symm⟩
      have hp : 0 < 2 ^ q := Nat.two_pow_pos _
      by_cases h3 : f + 1 < 4503599627370496
      · have e3 : ((q + 1) * 4503599627370496 + f + 1) % 4503599627370496 = f + 1 := by rw [Nat.add_assoc]; exact lay_mod (q + 1) 4503599627370496 (f + 1) h3
        have e4 : ((q + 1) * 4503599627370496 + f + 1) / 4503599627370496 = q + 1 := by rw [Nat.add_assoc]; exact lay_div (q + 1) 4503599627370496 (f + 1) h3
        rw [e1, e2, e3, e4]
        exact Nat.mul_lt_mul_of_pos_right (by omega) hp
      · have hf2 : f + 1 = 4503599627370496 := by omega
        have e0 : (q + 1) * 4503599627370496 + f + 1 = (q + 2) * 4503599627370496 := by
          rw [Nat.add_assoc, hf2, show q + 2 = (q + 1) + 1 from rfl, Nat.add_mul (q + 1) 1, Nat.one_mul]
        have e3 : ((q + 1) * 4503599627370496 + f + 1) % 4503599627370496 = 0 := by rw [e0]; exact Nat.mul_mod_left (q + 2) 4503599627370496
        have e4 : ((q + 1) * 4503599627370496 + f + 1) / 4503599627370496 = q + 2 := by rw [e0]; exact Nat.mul_div_cancel (q + 2) (by decide)
        rw [e1, e2, e3, e4]
        show (4503599627370496 + f) * 2 ^ q < 4503599627370496 * 2 ^ (q + 1)
        rw [Nat.pow_succ, Nat.mul_comm (2 ^ q) 2, ← Nat.mul_assoc]
        exact Nat.mul_lt_mul_of_pos_right (by omega) hp

theorem valF_lt {r s : Nat} (h : r < s) : valF r < valF s := by
  induction s with
  | zero => omega
  | succ s ih =>
    by_cases e : r = s
    · subst e; exact valF_step r
    · exact Nat.lt_trans (ih (by omega)) (valF_step s)
theorem valF_lt_iff {r s : Nat} : valF r < valF s ↔ r < s := by
  constructor
  · intro h
    rcases Nat.lt_trichotomy r s with h1 | h1 | h1
    · exact h1
    · subst h1; omega
    · have := valF_lt h1; omega
  · exact valF_lt
theorem valF_le_iff {r s : Nat} : valF r ≤ valF s ↔ r ≤ s := by
  rw [← Nat.not_lt, valF_lt_iff, Nat.not_lt]

/-- the value with its sign, in units of 2 to the -1074 -/
def sgnF (w : Nat) : Int := if negF w then -(valF (rungF w) : Int) else (valF (rungF w) : Int)

theorem signed_scale (s : Bool) (m e k : Nat) (h : k ≤ e) : Ieee.signed s m (e - k) * (2 ^ k : Nat) = if s then -((m * 2 ^ e : Nat) : Int) else ((m * 2 ^ e : Nat) : Int) := by
  unfold Ieee.signed
  rw [Nat.shiftLeft_eq]
  have : m * 2 ^ (e - k) * 2 ^ k = m * 2 ^ e := by rw [Nat.mul_assoc, ← Nat.pow_add, Nat.sub_add_cancel h]
  split
  · rw [Int.neg_mul, ← Int.natCast_mul, this]
  · rw [← Int.natCast_mul, this]

theorem cmp_mul (a b : Int) (k : Nat) : compare (a * (2 ^ k : Nat)) (b * (2 ^ k : Nat)) = compare a b := by
  have hk : (0 : Int) < (2 ^ k : Nat) := by exact_mod_cast Nat.two_pow_pos k
  show compareOfLessAndEq _ _ = compareOfLessAndEq _ _
  unfold compareOfLessAndEq
  have h1 : (a * (2 ^ k : Nat) < b * (2 ^ k : Nat)) ↔ a < b := Int.mul_lt_mul_right hk
  have h2 : (a * (2 ^ k : Nat) = b * (2 ^ k : Nat)) ↔ a = b := ⟨fun h => Int.eq_of_mul_eq_mul_right (by omega) h, fun h => by rw [h]⟩
  simp only [h1, h2]

theorem order_num (x y : Nat) (hx : rungF x < 9218868437227405312) (hy : rungF y < 9218868437227405312) : Ieee.double.order x y = some (compare (sgnF x) (sgnF y)) := by
  unfold Format.order
  rw [read_num x hx, read_num y hy]
  simp only [Datum.order]
  congr 1
  unfold sgnF valF
  generalize negF x = s
  generalize negF y = t
  generalize magF (rungF x) = m
  generalize magF (rungF y) = n
  generalize upF (rungF x) = e
  generalize upF (rungF y) = d
  obtain ⟨b, hb, h1, h2⟩ : ∃ b : Nat, min (-1074 + (e : Int)) (-1074 + (d : Int)) = -1074 + (b : Int) ∧ b ≤ e ∧ b ≤ d := ⟨min e d, by omega, by omega, by omega⟩
  rw [hb, show (-1074 + (e : Int) - (-1074 + (b : Int))).toNat = e - b by omega, show (-1074 + (d : Int) - (-1074 + (b : Int))).toNat = d - b by omega, ← cmp_mul _ _ b, signed_scale s m e b h1, signed_scale t n d b h2]

/-- how a word's number stands to another's -/
theorem order_lt (x y : Nat) (hx : rungF x < 9218868437227405312) (hy : rungF y < 9218868437227405312) : (Ieee.double.order x y == some .lt) = decide (sgnF x < sgnF y) := by
  rw [order_num x y hx hy]
  have : compare (sgnF x) (sgnF y) = compareOfLessAndEq (sgnF x) (sgnF y) := rfl
  rw [this]; unfold compareOfLessAndEq
  split <;> rename_i h
  · simp [h]
  · split <;> simp [h]
theorem order_gt (x y : Nat) (hx : rungF x < 9218868437227405312) (hy : rungF y < 9218868437227405312) : (Ieee.double.order x y == some .gt) = decide (sgnF y < sgnF x) := by
  rw [order_num x y hx hy]
  have : compare (sgnF x) (sgnF y) = compareOfLessAndEq (sgnF x) (sgnF y) := rfl
  rw [this]; unfold compareOfLessAndEq
  split <;> rename_i h
  · simp; omega
  · split <;> rename_i h' <;> simp <;> omega
theorem order_eq (x y : Nat) (hx : rungF x < 9218868437227405312) (hy : rungF y < 9218868437227405312) : (Ieee.double.order x y == some .eq) = decide (sgnF x = sgnF y) := by
  rw [order_num x y hx hy]
  have : compare (sgnF x) (sgnF y) = compareOfLessAndEq (sgnF x) (sgnF y) := rfl
  rw [this]; unfold compareOfLessAndEq
  split <;> rename_i h
  · simp; omega
  · split <;> rename_i h' <;> simp <;> omega

theorem log2_mul_pow (m k : Nat) (hm : m ≠ 0) : (m * 2 ^ k).log2 = m.log2 + k := by
  have h0 : m * 2 ^ k ≠ 0 := Nat.mul_ne_zero hm (Nat.pos_iff_ne_zero.1 (Nat.two_pow_pos k))
  rw [Nat.log2_eq_iff h0]
  have := Nat.log2_self_le hm
  have h2 := Nat.lt_log2_self (n := m)
  constructor
  · rw [Nat.pow_add]; exact Nat.mul_le_mul_right _ this
  · rw [show m.log2 + k + 1 = (m.log2 + 1) + k by omega, Nat.pow_add]; exact Nat.mul_lt_mul_of_pos_right h2 (Nat.two_pow_pos k)

theorem cut_exact (way : Toward) (s : Bool) (m k d : Nat) (hm : m ≠ 0) (h : d ≤ k) : way.cut s (m * 2 ^ k) d = m * 2 ^ (k - d) := by
  have hd : min d ((m * 2 ^ k).log2 + 2) = d := by rw [log2_mul_pow m k hm]; omega
  have e : m * 2 ^ k = 2 ^ d * (m * 2 ^ (k - d)) := by
    rw [Nat.mul_left_comm, ← Nat.pow_add, show d + (k - d) = k by omega]
  unfold Toward.cut
  dsimp only
  rw [hd, Nat.shiftLeft_eq, Nat.one_mul, e, Nat.mul_mod_right, Nat.mul_div_cancel_left _ (Nat.two_pow_pos d)]
  have hp := Nat.two_pow_pos d
  cases way <;> simp <;> omega

theorem valF_low (K : Nat) (h : K < 4503599627370496) : valF K = K := by
  unfold valF magF upF
  rw [if_pos h, if_pos h, Nat.pow_zero, Nat.mul_one]
theorem valF_high (l J : Nat) (hJ : J < 4503599627370496) : valF ((l + 1) * 4503599627370496 + J) = (4503599627370496 + J) * 2 ^ l := by
  have e0 : ¬ (l + 1) * 4503599627370496 + J < 4503599627370496 := by
    rw [Nat.add_mul l 1, Nat.one_mul]; omega
  unfold valF magF upF
  rw [if_neg e0, if_neg e0, lay_mod (l + 1) 4503599627370496 J hJ, lay_div (l + 1) 4503599627370496 J hJ, Nat.add_sub_cancel]
theorem valF_at (l K : Nat) (h : K < 9007199254740992) (hl : l ≠ 0 → 4503599627370496 ≤ K) : valF (l * 4503599627370496 + K) = K * 2 ^ l := by
  by_cases c : K < 4503599627370496
  · have : l = 0 := by
      rcases Nat.eq_zero_or_pos l with h1 | h1
      · exact h1
      · have := hl (by omega); omega
    subst this
    rw [Nat.zero_mul, Nat.zero_add, valF_low K c, Nat.pow_zero, Nat.mul_one]
  · obtain ⟨J, rfl⟩ : ∃ J, K = 4503599627370496 + J := ⟨K - 4503599627370496, (Nat.add_sub_cancel' (Nat.le_of_not_lt c)).symm⟩
    have ee : l * 4503599627370496 + (4503599627370496 + J) = (l + 1) * 4503599627370496 + J := by rw [Nat.add_mul l 1, Nat.one_mul, Nat.add_assoc]
    rw [ee, valF_high l J (by omega)]

/-- a number of few digits is written as it is -/
theorem nearest_exact (s : Bool) (m k e : Nat) (place : Int) (hm : m ≠ 0) (h53 : m < 9007199254740992) (hp : place + k = -1074 + (e : Int)) (he : e ≤ 1900) :
    ∃ r, Ieee.double.nearest s (m * 2 ^ k) place = Ieee.double.word s r ∧ r < 9218868437227405312 ∧ valF r = m * 2 ^ e := by
  have h0 : m * 2 ^ k ≠ 0 := Nat.mul_ne_zero hm (Nat.pos_iff_ne_zero.1 (Nat.two_pow_pos k))
  unfold Format.nearest
  rw [if_neg h0, log2_mul_pow m k hm]
  simp only [dbl_binade, dbl_inf, dbl_least]
  have hL : m.log2 ≤ 52 := by
    have : m.log2 < 53 := (Nat.log2_lt hm).2 (by rw [show (2 : Nat) ^ 53 = 9007199254740992 from by decide]; exact h53)
    omega
  have l1 := Nat.log2_self_le hm
  have l2 := Nat.lt_log2_self (n := m)
  generalize m.log2 = L at *
  have hlast : max (place + ((L + k : Nat) : Int) - (Ieee.double.fractionBits : Int)) (-1074) = -1074 + ((e + L - 52 : Nat) : Int) := by
    show max (place + ((L + k : Nat) : Int) - 52) (-1074) = _
    omega
  rw [hlast]
  obtain ⟨l, hl⟩ : ∃ l, l = e + L - 52 := ⟨_, rfl⟩
  rw [← hl]
  rw [show (-1074 + (l : Int) - -1074).toNat = l by omega]
  have hle : l ≤ e := by omega
  have hcut : Toward.even.cut s ((m * 2 ^ k) <<< (place - (-1074 + (l : Int))).toNat) (-1074 + (l : Int) - place).toNat = m * 2 ^ (e - l) := by
    rw [Nat.shiftLeft_eq, Nat.mul_assoc, ← Nat.pow_add, cut_exact _ _ _ _ _ hm (by omega)]
    congr 2
    omega
  rw [hcut]
  have hK : m * 2 ^ (e - l) < 9007199254740992 := by
    by_cases c : l = 0
    · have : L + e + 1 ≤ 53 := by omega
      rw [c, Nat.sub_zero]
      calc m * 2 ^ e < 2 ^ (L + 1) * 2 ^ e := Nat.mul_lt_mul_of_pos_right l2 (Nat.two_pow_pos e)
        _ = 2 ^ (L + 1 + e) := by rw [← Nat.pow_add]
        _ ≤ 2 ^ 53 := Nat.pow_le_pow_right (by omega) (by omega)
    · calc m * 2 ^ (e - l) < 2 ^ (L + 1) * 2 ^ (e - l) := Nat.mul_lt_mul_of_pos_right l2 (Nat.two_pow_pos _)
        _ = 2 ^ (L + 1 + (e - l)) := by rw [← Nat.pow_add]
        _ ≤ 2 ^ 53 := Nat.pow_le_pow_right (by omega) (by omega)
  have hG : l ≠ 0 → 4503599627370496 ≤ m * 2 ^ (e - l) := by
    intro c
    calc 4503599627370496 = 2 ^ (L + (e - l)) := by rw [show L + (e - l) = 52 by omega]
      _ = 2 ^ L * 2 ^ (e - l) := by rw [Nat.pow_add]
      _ ≤ m * 2 ^ (e - l) := Nat.mul_le_mul_right _ l1
  have hV : m * 2 ^ e = m * 2 ^ (e - l) * 2 ^ l := by rw [Nat.mul_assoc, ← Nat.pow_add, Nat.sub_add_cancel hle]
  rw [hV]
  generalize m * 2 ^ (e - l) = K at *
  have hll : l ≤ 1900 := by omega
  have hlim : l * 4503599627370496 + K < 9218868437227405312 := by omega
  exact ⟨l * 4503599627370496 + K, by rw [Nat.min_eq_left (Nat.le_of_lt hlim)], hlim, valF_at l K hK hG⟩

def fE : Nat := 1074
def fU : Nat := 2 ^ fE
theorem fE_eq : fE = 1074 := rfl
theorem fU_pos : 0 < fU := Nat.two_pow_pos fE

theorem word_neg (s : Bool) (r : Nat) (h : r < 9223372036854775808) : negF (Ieee.double.word s r) = s := by
  unfold Format.word negF; rw [dbl_sign]
  cases s
  · rw [if_neg (by decide)]; simp; omega
  · rw [if_pos rfl]; simp; omega
theorem word_rung (s : Bool) (r : Nat) (h : r < 9223372036854775808) : rungF (Ieee.double.word s r) = r := by
  unfold Format.word rungF; rw [dbl_sign]
  cases s
  · rw [if_neg (by decide)]; omega
  · rw [if_pos rfl]; omega
theorem word_lt64 (s : Bool) (r : Nat) (h : r < 9223372036854775808) : Ieee.double.word s r < 18446744073709551616 := by
  unfold Format.word; rw [dbl_sign]; split <;> omega
theorem word_self (y : Nat) (h : y < 18446744073709551616) : Ieee.double.word (negF y) (rungF y) = y := by
  unfold Format.word negF rungF; rw [dbl_sign]
  by_cases c : (y / 9223372036854775808 % 2 == 1) = true
  · rw [if_pos c]; simp at c; omega
  · rw [if_neg c]; simp at c; omega

theorem cut_zero (s : Bool) (n d : Nat) : Toward.zero.cut s n d = n / 2 ^ d := by
  unfold Toward.cut
  dsimp only
  rw [Nat.shiftLeft_eq, Nat.one_mul]
  show n / 2 ^ min d (n.log2 + 2) + 0 = _
  rw [Nat.add_zero]
  by_cases h : d ≤ n.log2 + 2
  · rw [Nat.min_eq_left h]
  · have hlt : n < 2 ^ (n.log2 + 2) := Nat.lt_trans Nat.lt_log2_self (Nat.pow_lt_pow_right (by omega) (by omega))
    rw [Nat.min_eq_right (by omega), Nat.div_eq_of_lt hlt, Nat.div_eq_of_lt (Nat.lt_of_lt_of_le hlt (Nat.pow_le_pow_right (by omega) (by omega)))]

theorem val_div (r : Nat) (h : upF r ≤ 1074) : valF r / fU = magF r / 2 ^ (1074 - upF r) := by
  unfold valF fU
  rw [show (2 : Nat) ^ fE = 2 ^ (1074 - upF r) * 2 ^ upF r by rw [← Nat.pow_add, Nat.sub_add_cancel h, fE_eq], Nat.mul_div_mul_right _ _ (Nat.two_pow_pos _)]
theorem val_mod (r : Nat) (h : upF r ≤ 1074) : valF r % fU = magF r % 2 ^ (1074 - upF r) * 2 ^ upF r := by
  unfold valF fU
  rw [show (2 : Nat) ^ fE = 2 ^ (1074 - upF r) * 2 ^ upF r by rw [← Nat.pow_add, Nat.sub_add_cancel h, fE_eq], Nat.mul_mod_mul_right]

def sg (s : Bool) (n : Nat) : Int := if s then -(n : Int) else (n : Int)

theorem toInt_num (w : Nat) (h : rungF w < 9218868437227405312) (he : upF (rungF w) ≤ 1074) : (Ieee.double.read w).toInt .zero = some (sg (negF w) (valF (rungF w) / fU)) := by
  rw [read_num w h]
  simp only [Datum.toInt, Datum.integral]
  rw [show (-1074 + (upF (rungF w) : Int)).toNat = 0 by omega, show (-(-1074 + (upF (rungF w) : Int))).toNat = 1074 - upF (rungF w) by omega, Nat.shiftLeft_zero, cut_zero, val_div _ he]
  simp [Ieee.signed, sg]

theorem upF_le (r e : Nat) (h : r < (e + 2) * 4503599627370496) : upF r ≤ e := by
  unfold upF
  split
  · omega
  · have : r / 4503599627370496 < e + 2 := Nat.div_lt_of_lt_mul (by rw [Nat.mul_comm]; exact h)
    omega
theorem magF_lt (r : Nat) : magF r < 9007199254740992 := by
  unfold magF
  split
  · omega
  · have := Nat.mod_lt r (show 4503599627370496 > 0 by decide); omega

theorem pow52 : (2 : Nat) ^ 52 = 4503599627370496 := by decide

/-- times 8192: exact -/
theorem mul_8192 (x : Nat) (h : rungF x < 4643211215818981376) : ∃ y, Ieee.double.mul x 4665729213955833856 = some y ∧ y < 18446744073709551616 ∧ negF y = negF x ∧ rungF y < 9218868437227405312 ∧ valF (rungF y) = valF (rungF x) * 8192 := by
  have hup : upF (rungF x) ≤ 1029 := upF_le _ 1029 (by omega)
  have hmag := magF_lt (rungF x)
  unfold Format.mul
  rw [read_num x (by omega), read_num 4665729213955833856 (by decide), show negF 4665729213955833856 = false by decide, show magF (rungF 4665729213955833856) = 2 ^ 52 by decide, show upF (rungF 4665729213955833856) = 1035 by decide]
  simp only [Datum.product, Option.map, Format.write, Bool.xor_false]
  have hval : valF (rungF x) = magF (rungF x) * 2 ^ upF (rungF x) := rfl
  by_cases h0 : magF (rungF x) = 0
  · have hz : Ieee.double.nearest (negF x) (magF (rungF x) * 2 ^ 52) (-1074 + (upF (rungF x) : Int) + (-1074 + ((1035 : Nat) : Int))) = Ieee.double.word (negF x) 0 := by
      unfold Format.nearest; rw [h0, Nat.zero_mul, if_pos rfl]
    rw [hz]
    exact ⟨_, rfl, word_lt64 _ _ (by decide), word_neg _ _ (by decide), by rw [word_rung _ _ (by decide)]; decide, by rw [word_rung _ _ (by decide), hval, h0, Nat.zero_mul, Nat.zero_mul]; decide⟩
  · obtain ⟨r, hr, hi, hv⟩ := nearest_exact (negF x) (magF (rungF x)) 52 (upF (rungF x) + 13) (-1074 + (upF (rungF x) : Int) + (-1074 + ((1035 : Nat) : Int))) h0 hmag (by omega) (by omega)
    rw [hr]
    refine ⟨_, rfl, word_lt64 _ _ (by omega), word_neg _ _ (by omega), by rw [word_rung _ _ (by omega)]; exact hi, ?_⟩
    rw [word_rung _ _ (by omega), hv, hval, Nat.pow_add, Nat.mul_assoc]

/-- the nearest whole number, away from nought between two -/
def rndF (v : Nat) : Nat := (2 * v + fU) / (2 * fU)
theorem rndF_eq (v : Nat) : rndF v = if fU ≤ 2 * (v % fU) then v / fU + 1 else v / fU := by
  have hp := fU_pos
  unfold rndF
  generalize fU = U at *
  have h1 := Nat.div_add_mod v U
  have h2 := Nat.mod_lt v hp
  generalize v / U = q at *
  generalize v % U = m at *
  subst h1
  by_cases c : U ≤ 2 * m
  · rw [if_pos c, show 2 * (U * q + m) + U = (2 * m - U) + 2 * U * (q + 1) by
      have e : 2 * (U * q) = 2 * U * q := by rw [Nat.mul_assoc]
      have e2 : 2 * U * (q + 1) = 2 * U * q + 2 * U := by rw [Nat.mul_add, Nat.mul_one]
      omega, Nat.add_mul_div_left _ _ (by omega), Nat.div_eq_of_lt (by omega), Nat.zero_add]
  · rw [if_neg c, show 2 * (U * q + m) + U = (2 * m + U) + 2 * U * q by
      have e : 2 * (U * q) = 2 * U * q := by rw [Nat.mul_assoc]
      omega, Nat.add_mul_div_left _ _ (by omega), Nat.div_eq_of_lt (by omega), Nat.zero_add]

theorem ofInt_num (n : Int) (h : n.natAbs < 9007199254740992) : floatOfInt .f64 n < 18446744073709551616 ∧ negF (floatOfInt .f64 n) = decide (n < 0) ∧ rungF (floatOfInt .f64 n) < 9218868437227405312 ∧ valF (rungF (floatOfInt .f64 n)) = n.natAbs * fU := by
  have e : floatOfInt .f64 n = Ieee.double.nearest (decide (n < 0)) n.natAbs 0 := rfl
  rw [e]
  by_cases h0 : n.natAbs = 0
  · rw [h0]
    have hz : Ieee.double.nearest (decide (n < 0)) 0 0 = Ieee.double.word (decide (n < 0)) 0 := by unfold Format.nearest; rw [if_pos rfl]
    rw [hz, word_neg _ _ (by decide), word_rung _ _ (by decide), Nat.zero_mul]
    exact ⟨word_lt64 _ _ (by decide), rfl, by decide, by decide⟩
  · obtain ⟨r, hr, hi, hv⟩ := nearest_exact (decide (n < 0)) n.natAbs 0 fE 0 h0 h (by rw [fE_eq]; omega) (by rw [fE_eq]; omega)
    rw [Nat.pow_zero, Nat.mul_one] at hr
    rw [hr, word_neg _ _ (by omega), word_rung _ _ (by omega)]
    exact ⟨word_lt64 _ _ (by omega), rfl, hi, hv⟩

theorem sg_mul (s : Bool) (n k : Nat) : sg s n * (k : Nat) = sg s (n * k) := by
  unfold sg; split
  · rw [Int.neg_mul, ← Int.natCast_mul]
  · rw [← Int.natCast_mul]

/-- y less its whole part: exact -/
theorem sub_part (y : Nat) (n : Int) (h : rungF y < 4701758010974797824) (hn : n = sg (negF y) (valF (rungF y) / fU)) (hb : n.natAbs < 9007199254740992) :
    ∃ z, Ieee.double.sub y (floatOfInt .f64 n) = some z ∧ z < 18446744073709551616 ∧ rungF z < 9218868437227405312 ∧ sgnF z = sg (negF y) (valF (rungF y) % fU) := by
  obtain ⟨c1, c2, c3, c4⟩ := ofInt_num n hb
  generalize floatOfInt .f64 n = c at *
  have hup : upF (rungF y) ≤ 1042 := upF_le _ 1042 (by omega)
  have hmag := magF_lt (rungF y)
  have hmod := val_mod (rungF y) (by omega)
  have hv : valF (rungF y) = magF (rungF y) * 2 ^ upF (rungF y) := rfl
  have hvc : valF (rungF c) = magF (rungF c) * 2 ^ upF (rungF c) := rfl
  have hna : n.natAbs = valF (rungF y) / fU := by rw [hn]; unfold sg; generalize valF (rungF y) / fU = q; split <;> omega
  have hdm := Nat.div_add_mod (valF (rungF y)) fU
  unfold Format.sub
  rw [read_num y (by omega), read_num c c3]
  simp only [Datum.opposite, Datum.sum, Option.map, Format.write]
  obtain ⟨b, hbb, h1, h2⟩ : ∃ b : Nat, min (-1074 + (upF (rungF y) : Int)) (-1074 + (upF (rungF c) : Int)) = -1074 + (b : Int) ∧ b ≤ upF (rungF y) ∧ b ≤ upF (rungF c) := ⟨min (upF (rungF y)) (upF (rungF c)), by omega, by omega, by omega⟩
  rw [hbb, show (-1074 + (upF (rungF y) : Int) - (-1074 + (b : Int))).toNat = upF (rungF y) - b by omega, show (-1074 + (upF (rungF c) : Int) - (-1074 + (b : Int))).toNat = upF (rungF c) - b by omega]
  have s1 := signed_scale (negF y) (magF (rungF y)) (upF (rungF y)) b h1
  have s2 := signed_scale (!negF c) (magF (rungF c)) (upF (rungF c)) b h2
  obtain ⟨T, hT⟩ : ∃ T, T = Ieee.signed (negF y) (magF (rungF y)) (upF (rungF y) - b) + Ieee.signed (!negF c) (magF (rungF c)) (upF (rungF c) - b) := ⟨_, rfl⟩
  rw [← hT]
  have hTb : T * (2 ^ b : Nat) = sg (negF y) (valF (rungF y) % fU) := by
    rw [hT, Int.add_mul, s1, s2, ← hv, ← hvc, c4, hna, c2, hn]
    generalize valF (rungF y) = v at *
    have hcm : fU * (v / fU) = v / fU * fU := Nat.mul_comm _ _
    generalize v / fU = q at *
    generalize v % fU = m at *
    rw [hcm] at hdm
    by_cases q0 : q = 0
    · subst q0
      rw [Nat.zero_mul] at hdm ⊢
      unfold sg
      cases negF y <;> simp <;> omega
    · generalize q * fU = qU at *
      unfold sg
      cases negF y
      · have : ¬ (q : Int) < 0 := by omega
        simp; omega
      · have : -(q : Int) < 0 := by omega
        simp; omega
  have hq : T = sg (negF y) (magF (rungF y) % 2 ^ (1074 - upF (rungF y)) * 2 ^ (upF (rungF y) - b)) := by
    have hpos : (0 : Int) < (2 ^ b : Nat) := by exact_mod_cast Nat.two_pow_pos b
    refine Int.eq_of_mul_eq_mul_right (Int.ne_of_gt hpos) ?_
    rw [hTb, sg_mul, Nat.mul_assoc, ← Nat.pow_add, Nat.sub_add_cancel h1, hmod]
  have hm' : magF (rungF y) % 2 ^ (1074 - upF (rungF y)) ≤ magF (rungF y) := Nat.mod_le _ _
  rw [hmod]
  generalize magF (rungF y) % 2 ^ (1074 - upF (rungF y)) = m' at *
  have hTn : T.natAbs = m' * 2 ^ (upF (rungF y) - b) := by rw [hq]; unfold sg; split <;> omega
  by_cases h0 : m' = 0
  · subst h0
    have hT0 : T.natAbs = 0 := by rw [hTn, Nat.zero_mul]
    have : ∀ s, Ieee.double.nearest s T.natAbs (-1074 + (b : Int)) = Ieee.double.word s 0 := by intro s; unfold Format.nearest; rw [if_pos hT0]
    rw [this]
    refine ⟨_, rfl, word_lt64 _ _ (by decide), by rw [word_rung _ _ (by decide)]; decide, ?_⟩
    unfold sgnF
    rw [word_rung _ _ (by decide), show valF 0 = 0 by decide]
    simp [sg]
  · have hTz : T ≠ 0 := by
      intro e
      rw [e] at hTn
      have := Nat.mul_ne_zero h0 (Nat.pos_iff_ne_zero.1 (Nat.two_pow_pos (upF (rungF y) - b)))
      omega
    rw [if_neg hTz, hTn]
    obtain ⟨r, hr, hi, hvv⟩ := nearest_exact (decide (T < 0)) m' (upF (rungF y) - b) (upF (rungF y)) (-1074 + (b : Int)) h0 (by omega) (by omega) (by omega)
    rw [hr]
    refine ⟨_, rfl, word_lt64 _ _ (by omega), by rw [word_rung _ _ (by omega)]; exact hi, ?_⟩
    unfold sgnF
    rw [word_rung _ _ (by omega), word_neg _ _ (by omega), hvv]
    have hpp := Nat.mul_ne_zero h0 (Nat.pos_iff_ne_zero.1 (Nat.two_pow_pos (upF (rungF y) - b)))
    have : decide (T < 0) = negF y := by
      generalize m' * 2 ^ (upF (rungF y) - b) = Q at hq hpp
      rw [hq]; unfold sg
      cases negF y
      · simp
      · simp; omega
    rw [this]; rfl

theorem two_up (r e : Nat) (hm : magF r = 2 ^ 52) (he : upF r = e) : valF r = 2 ^ (52 + e) := by
  unfold valF; rw [hm, he, ← Nat.pow_add]
theorem pow_fU (e : Nat) (h : 52 + e = fE) : 2 ^ (52 + e) = fU := by unfold fU; rw [h]
theorem pow_half (e : Nat) (h : 52 + e + 1 = fE) : 2 ^ (52 + e) * 2 = fU := by unfold fU; rw [← h]; rw [Nat.pow_succ]
theorem val_one : valF 4607182418800017408 = fU := (two_up 4607182418800017408 1022 (by decide) (by decide)).trans (pow_fU 1022 (by rw [fE_eq]))
theorem val_half : valF 4602678819172646912 * 2 = fU := by
  have h := two_up 4602678819172646912 1021 (by decide) (by decide)
  generalize he : 1021 = e at h
  rw [h]
  exact pow_half e (by rw [← he, fE_eq])
theorem half_rung : rungF 4602678819172646912 = 4602678819172646912 := by decide
theorem half_val : valF (rungF 4602678819172646912) * 2 = fU := by rw [half_rung]; exact val_half
theorem half_sgn : 2 * sgnF 4602678819172646912 = (fU : Int) := by
  have := half_val
  unfold sgnF
  rw [show negF 4602678819172646912 = false by decide, if_neg (by decide)]
  omega
theorem half_neg : 2 * sgnF 13826050856027422720 = -(fU : Int) := by
  have := half_val
  unfold sgnF
  rw [show negF 13826050856027422720 = true by decide, if_pos rfl, show rungF 13826050856027422720 = rungF 4602678819172646912 by decide]
  omega

/-- the rung that math.Round gives -/
def roundR (r : Nat) : Nat := if r / 4503599627370496 < 1022 then 0 else if r / 4503599627370496 = 1022 then 4607182418800017408 else (r + 2 ^ (1074 - r / 4503599627370496)) / 2 ^ (1075 - r / 4503599627370496) * 2 ^ (1075 - r / 4503599627370496)

theorem round_val (r : Nat) (h : r < 4701758010974797824) : roundR r < 4706261610602168320 ∧ valF (roundR r) = rndF (valF r) * fU := by
  have hp := fU_pos
  unfold roundR
  by_cases c1 : r / 4503599627370496 < 1022
  · rw [if_pos c1]
    have hr : r < 4602678819172646912 := by omega
    have := valF_lt hr
    have vh := val_half
    refine ⟨by decide, ?_⟩
    have : rndF (valF r) = 0 := by unfold rndF; exact Nat.div_eq_of_lt (by omega)
    rw [this, Nat.zero_mul]; decide
  · rw [if_neg c1]
    by_cases c2 : r / 4503599627370496 = 1022
    · rw [if_pos c2]
      have hr : r < 4607182418800017408 := by omega
      have hr2 : 4602678819172646912 ≤ r := by omega
      have h1 := valF_lt hr
      have h2 := valF_le_iff.2 hr2
      have vh := val_half
      have vo := val_one
      refine ⟨by decide, ?_⟩
      have : rndF (valF r) = 1 := by
        unfold rndF
        rw [vo] at h1
        rw [show 2 * valF r + fU = (2 * valF r - fU) + 2 * fU * 1 by omega, Nat.add_mul_div_left _ _ (by omega), Nat.div_eq_of_lt (by omega)]
      rw [this, Nat.one_mul, vo]
    · rw [if_neg c2]
      obtain ⟨E, hE, hE2⟩ : ∃ E, r / 4503599627370496 = 1023 + E ∧ E ≤ 20 := ⟨r / 4503599627370496 - 1023, by omega, by omega⟩
      rw [hE]
      obtain ⟨f, hf, hr⟩ : ∃ f, f < 4503599627370496 ∧ r = (1022 + E) * 4503599627370496 + (4503599627370496 + f) := by
        refine ⟨r % 4503599627370496, Nat.mod_lt _ (by decide), ?_⟩
        have := Nat.div_add_mod r 4503599627370496
        rw [hE] at this
        omega
      obtain ⟨K, hK⟩ : ∃ K, K = 4503599627370496 + f := ⟨_, rfl⟩
      rw [← hK] at hr
      have hKl : K < 9007199254740992 := by omega
      have hKg : 4503599627370496 ≤ K := by omega
      have hv : valF r = K * 2 ^ (1022 + E) := by rw [hr]; exact valF_at _ K hKl (fun _ => hKg)
      obtain ⟨t, ht, htE⟩ : ∃ t, 51 - E = t ∧ t + 1 + E = 52 := ⟨51 - E, rfl, by omega⟩
      rw [show 1074 - (1023 + E) = t by omega, show 1075 - (1023 + E) = t + 1 by omega]
      have hC : 4503599627370496 = 2 ^ (t + 1) * 2 ^ E := by rw [← Nat.pow_add, htE]
      have hU : fU = 2 ^ (t + 1) * 2 ^ (1022 + E) := by unfold fU; rw [← Nat.pow_add, fE_eq]; congr 1; omega
      have hP : 0 < 2 ^ (1022 + E) := Nat.two_pow_pos _
      have hT : 0 < 2 ^ t := Nat.two_pow_pos _
      have hT1 : 2 ^ (t + 1) = 2 * 2 ^ t := by rw [Nat.pow_succ, Nat.mul_comm]
      have hn : rndF (valF r) = (K + 2 ^ t) / 2 ^ (t + 1) := by
        unfold rndF
        rw [hv, hU, show 2 * (K * 2 ^ (1022 + E)) + 2 ^ (t + 1) * 2 ^ (1022 + E) = (2 * (K + 2 ^ t)) * 2 ^ (1022 + E) by
          rw [hT1, ← Nat.mul_assoc, ← Nat.add_mul, Nat.mul_add], show 2 * (2 ^ (t + 1) * 2 ^ (1022 + E)) = (2 * 2 ^ (t + 1)) * 2 ^ (1022 + E) by rw [Nat.mul_assoc], Nat.mul_div_mul_right _ _ hP, Nat.mul_div_mul_left _ _ (by decide)]
      rw [hn]
      have hr2 : (r + 2 ^ t) / 2 ^ (t + 1) * 2 ^ (t + 1) = (1022 + E) * 4503599627370496 + (K + 2 ^ t) / 2 ^ (t + 1) * 2 ^ (t + 1) := by
        rw [hr, show (1022 + E) * 4503599627370496 + K + 2 ^ t = (K + 2 ^ t) + 2 ^ (t + 1) * ((1022 + E) * 2 ^ E) by
          rw [Nat.mul_left_comm, ← hC]; omega, Nat.add_mul_div_left _ _ (by omega), Nat.add_mul, Nat.mul_assoc (1022 + E), Nat.mul_comm (2 ^ E), ← hC]
        omega
      rw [hr2]
      have hlo : 2 ^ E ≤ (K + 2 ^ t) / 2 ^ (t + 1) := by
        rw [Nat.le_div_iff_mul_le (by omega), Nat.mul_comm, ← hC]; omega
      have hhi : (K + 2 ^ t) / 2 ^ (t + 1) ≤ 2 * 2 ^ E := by
        rw [← Nat.lt_succ_iff, Nat.div_lt_iff_lt_mul (by omega), Nat.succ_mul, Nat.mul_assoc, Nat.mul_comm (2 ^ E), ← hC]; omega
      generalize (K + 2 ^ t) / 2 ^ (t + 1) = n at *
      have k1 : 4503599627370496 ≤ n * 2 ^ (t + 1) := by
        calc 4503599627370496 = 2 ^ E * 2 ^ (t + 1) := by rw [Nat.mul_comm, ← hC]
          _ ≤ n * 2 ^ (t + 1) := Nat.mul_le_mul_right _ hlo
      have k2 : n * 2 ^ (t + 1) ≤ 9007199254740992 := by
        calc n * 2 ^ (t + 1) ≤ 2 * 2 ^ E * 2 ^ (t + 1) := Nat.mul_le_mul_right _ hhi
          _ = 2 * (2 ^ (t + 1) * 2 ^ E) := by rw [Nat.mul_assoc, Nat.mul_comm (2 ^ E)]
          _ = 9007199254740992 := by rw [← hC]
      have hgoal : n * fU = n * 2 ^ (t + 1) * 2 ^ (1022 + E) := by rw [hU, Nat.mul_assoc]
      rw [hgoal]
      generalize n * 2 ^ (t + 1) = K1 at *
      refine ⟨by omega, ?_⟩
      by_cases c3 : K1 < 9007199254740992
      · exact valF_at _ K1 c3 (fun _ => k1)
      · have : K1 = 9007199254740992 := by omega
        subst this
        have e := valF_high (1023 + E) 0 (by decide)
        rw [Nat.add_zero] at e
        rw [show (1022 + E) * 4503599627370496 + 9007199254740992 = (1023 + E + 1) * 4503599627370496 by omega, e, show 1023 + E = (1022 + E) + 1 by omega, Nat.pow_succ]
        generalize 2 ^ (1022 + E) = P
        omega
end Go.Proofs.YtebkeocpojlepaaGreatDoor
