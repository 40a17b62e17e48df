/- Whole numbers below 2^53 as floats of 64 bits: they are exact; sums, differences, products and comparisons of them are those of the numbers. -/
import Derived.WalkKit
import GoSem.Op.FloatArith
import GoSem.Op.FloatCmp
import GoSem.Conv.IntToFloat
import GoSem.Conv.FloatToInt
import Derived.Laws.Cover2
set_option linter.unusedVariables false
set_option linter.unusedSimpArgs false
namespace Go.Proofs.YtnheibcjcgacpaaGreatDoor
open Ieee

/-- The word of a whole number. -/
def fl (n : Int) : Nat := FloatKind.f64.nearest n
theorem fl_eq (n : Int) : fl n = double.nearest (decide (n < 0)) n.natAbs 0 := rfl

theorem log2_mul (n d : Nat) (hn : n ≠ 0) : (n * 2 ^ d).log2 = n.log2 + d := by
  have hp : 0 < 2 ^ d := Nat.two_pow_pos d
  have hne : n * 2 ^ d ≠ 0 := by
    have : 0 < n * 2 ^ d := Nat.mul_pos (by omega) hp
    omega
  have h1 : (n * 2 ^ d).log2 < n.log2 + d + 1 := by
    rw [Nat.log2_lt hne]
    have := @Nat.lt_log2_self n
    calc n * 2 ^ d < 2 ^ (n.log2 + 1) * 2 ^ d := Nat.mul_lt_mul_of_pos_right this hp
      _ = 2 ^ (n.log2 + d + 1) := by rw [← Nat.pow_add]; congr 1; omega
  have h2 : ¬ (n * 2 ^ d).log2 < n.log2 + d := by
    rw [Nat.log2_lt hne]
    have := Nat.log2_self_le hn
    have : 2 ^ (n.log2 + d) ≤ n * 2 ^ d := by rw [Nat.pow_add]; exact Nat.mul_le_mul_right _ this
    omega
  omega

theorem cut_exact (way : Toward) (neg : Bool) (n drop : Nat) : way.cut neg (n * 2 ^ drop) drop = n := by
  unfold Toward.cut
  by_cases hn : n = 0
  · subst hn
    simp only [Nat.zero_mul, Nat.zero_div, Nat.zero_mod]
    have hg : 0 < 1 <<< min drop (Nat.log2 0 + 2) := by rw [Nat.one_shiftLeft]; exact Nat.two_pow_pos _
    generalize 1 <<< min drop (Nat.log2 0 + 2) = g at *
    cases way <;> simp <;> omega
  · have hm : min drop ((n * 2 ^ drop).log2 + 2) = drop := by rw [log2_mul n drop hn]; omega
    dsimp only
    rw [hm, Nat.one_shiftLeft, Nat.mul_div_cancel _ (Nat.two_pow_pos drop), Nat.mul_mod_left]
    have := Nat.two_pow_pos drop
    generalize 2 ^ drop = g at *
    cases way <;> simp <;> omega

/-- The rung of a number: its binade and its digits. -/
theorem nearest_exact (neg : Bool) (n d : Nat) (hn : n ≠ 0) (hlt : n < 2 ^ 53) : double.nearest neg (n * 2 ^ d) (-(d : Int)) = double.word neg ((n.log2 + 1022) * 2 ^ 52 + n * 2 ^ (52 - n.log2)) := by
  have hL : n.log2 < 53 := (Nat.log2_lt hn).2 hlt
  have hp : 0 < 2 ^ d := Nat.two_pow_pos d
  have hne : n * 2 ^ d ≠ 0 := by
    have : 0 < n * 2 ^ d := Nat.mul_pos (by omega) hp
    omega
  have hlast : max (-(d : Int) + ((n * 2 ^ d).log2 : Int) - (double.fractionBits : Int)) double.leastPlace = (n.log2 : Int) - 52 := by
    rw [log2_mul n d hn]
    show max (-(d : Int) + ((n.log2 + d : Nat) : Int) - 52) (2 - 2 ^ 10 - 52) = _
    omega
  unfold Format.nearest
  rw [if_neg hne]
  dsimp only
  rw [hlast]
  have hk : n * 2 ^ (52 - n.log2) < 2 ^ 53 := by
    have h1 := @Nat.lt_log2_self n
    calc n * 2 ^ (52 - n.log2) < 2 ^ (n.log2 + 1) * 2 ^ (52 - n.log2) := Nat.mul_lt_mul_of_pos_right h1 (Nat.two_pow_pos _)
      _ = 2 ^ 53 := by rw [← Nat.pow_add]; congr 1; omega
  have hkept : Toward.even.cut neg ((n * 2 ^ d) <<< (-(d : Int) - ((n.log2 : Int) - 52)).toNat) (((n.log2 : Int) - 52) - -(d : Int)).toNat = n * 2 ^ (52 - n.log2) := by
    by_cases hd : d ≤ 52 - n.log2
    · have e1 : (-(d : Int) - ((n.log2 : Int) - 52)).toNat = 52 - n.log2 - d := by omega
      have e2 : (((n.log2 : Int) - 52) - -(d : Int)).toNat = 0 := by omega
      rw [e1, e2, Nat.shiftLeft_eq, Nat.mul_assoc, ← Nat.pow_add, show d + (52 - n.log2 - d) = 52 - n.log2 by omega]
      have := cut_exact .even neg (n * 2 ^ (52 - n.log2)) 0
      simpa using this
    · have e1 : (-(d : Int) - ((n.log2 : Int) - 52)).toNat = 0 := by omega
      have e2 : (((n.log2 : Int) - 52) - -(d : Int)).toNat = d - (52 - n.log2) := by omega
      rw [e1, e2, Nat.shiftLeft_zero]
      have : n * 2 ^ d = n * 2 ^ (52 - n.log2) * 2 ^ (d - (52 - n.log2)) := by
        rw [Nat.mul_assoc, ← Nat.pow_add]; congr 2; omega
      rw [this]
      exact cut_exact .even neg _ _
  rw [hkept]
  have e3 : ((n.log2 : Int) - 52 - double.leastPlace).toNat = n.log2 + 1022 := by
    show ((n.log2 : Int) - 52 - (2 - 2 ^ 10 - 52)).toNat = _
    omega
  rw [e3]
  show double.word neg (min ((n.log2 + 1022) * 2 ^ 52 + n * 2 ^ (52 - n.log2)) ((2 ^ 11 - 1) * 2 ^ 52)) = _
  rw [Nat.min_eq_left]
  generalize n * 2 ^ (52 - n.log2) = q at *
  omega

/-- How far a number's digits are shifted. -/
def dig (n : Nat) : Nat := if n = 0 then 1074 else 52 - n.log2
theorem read_fl (neg : Bool) (n : Nat) (hlt : n < 2 ^ 53) : double.read (double.nearest neg n 0) = .number neg (n * 2 ^ dig n) (-(dig n : Int)) := by
  by_cases hn : n = 0
  · subst hn
    rw [Nat.zero_mul, show dig 0 = 1074 from rfl]
    show double.read (double.word neg 0) = _
    cases neg <;> decide
  · have h := nearest_exact neg n 0 hn hlt
    simp only [Nat.pow_zero, Nat.mul_one, Int.natCast_zero, Int.neg_zero] at h
    rw [h]
    have hL : n.log2 < 53 := (Nat.log2_lt hn).2 hlt
    have hlo : 2 ^ 52 ≤ n * 2 ^ (52 - n.log2) := by
      have h1 := Nat.log2_self_le hn
      calc 2 ^ 52 = 2 ^ n.log2 * 2 ^ (52 - n.log2) := by rw [← Nat.pow_add]; congr 1; omega
        _ ≤ n * 2 ^ (52 - n.log2) := Nat.mul_le_mul_right _ h1
    have hhi : n * 2 ^ (52 - n.log2) < 2 ^ 53 := by
      have h1 := @Nat.lt_log2_self n
      calc n * 2 ^ (52 - n.log2) < 2 ^ (n.log2 + 1) * 2 ^ (52 - n.log2) := Nat.mul_lt_mul_of_pos_right h1 (Nat.two_pow_pos _)
        _ = 2 ^ 53 := by rw [← Nat.pow_add]; congr 1; omega
    unfold dig
    rw [if_neg hn]
    generalize n * 2 ^ (52 - n.log2) = q at *
    generalize n.log2 = L at *
    have hw : double.word neg ((L + 1022) * 2 ^ 52 + q) / double.signWeight % 2 = if neg then 1 else 0 := by
      unfold Format.word
      cases neg
      · show ((L + 1022) * 2 ^ 52 + q) / 2 ^ 63 % 2 = 0
        omega
      · show (2 ^ 63 + ((L + 1022) * 2 ^ 52 + q)) / 2 ^ 63 % 2 = 1
        omega
    have hr : double.word neg ((L + 1022) * 2 ^ 52 + q) % double.signWeight = (L + 1022) * 2 ^ 52 + q := by
      unfold Format.word
      cases neg
      · show ((L + 1022) * 2 ^ 52 + q) % 2 ^ 63 = _
        omega
      · show (2 ^ 63 + ((L + 1022) * 2 ^ 52 + q)) % 2 ^ 63 = _
        omega
    unfold Format.read
    dsimp only
    rw [hw, hr]
    rw [if_neg (by show ¬ (L + 1022) * 2 ^ 52 + q < 2 ^ 52; omega), if_pos (by show (L + 1022) * 2 ^ 52 + q < (2 ^ 11 - 1) * 2 ^ 52; omega)]
    have e1 : double.binade + ((L + 1022) * 2 ^ 52 + q) % double.binade = q := by
      show 2 ^ 52 + ((L + 1022) * 2 ^ 52 + q) % 2 ^ 52 = q
      omega
    have e2 : double.leastPlace + ((((L + 1022) * 2 ^ 52 + q) / double.binade - 1 : Nat) : Int) = -((52 - L : Nat) : Int) := by
      show (2 - 2 ^ 10 - 52 : Int) + ((((L + 1022) * 2 ^ 52 + q) / 2 ^ 52 - 1 : Nat) : Int) = _
      omega
    rw [e1, e2]
    cases neg <;> rfl

theorem write_fl (neg : Bool) (n d : Nat) (hlt : n < 2 ^ 53) : double.write (.number neg (n * 2 ^ d) (-(d : Int))) = double.nearest neg n 0 := by
  show double.nearest neg (n * 2 ^ d) (-(d : Int)) = _
  by_cases hn : n = 0
  · subst hn
    unfold Format.nearest
    simp
  · have h := nearest_exact neg n 0 hn hlt
    simp only [Nat.pow_zero, Nat.mul_one, Int.natCast_zero, Int.neg_zero] at h
    rw [nearest_exact neg n d hn hlt, h]

/-- The number that a datum of ours stands for, at a common place. -/
theorem signed_scale (a : Int) (k : Nat) (hk : dig a.natAbs ≤ k) : signed (decide (a < 0)) (a.natAbs * 2 ^ dig a.natAbs) (-(dig a.natAbs : Int) - -(k : Int)).toNat = a * 2 ^ k := by
  have e : (-(dig a.natAbs : Int) - -(k : Int)).toNat = k - dig a.natAbs := by omega
  rw [e]
  unfold signed
  rw [Nat.shiftLeft_eq, Nat.mul_assoc, ← Nat.pow_add, show dig a.natAbs + (k - dig a.natAbs) = k by omega]
  by_cases h : a < 0
  · simp only [h, decide_true, if_true]
    rw [show (a.natAbs * 2 ^ k : Nat) = ((a.natAbs : Nat) * (2 ^ k : Nat)) from rfl, Int.natCast_mul]
    rw [show ((a.natAbs : Nat) : Int) = -a by omega]
    simp [Int.natCast_pow, Int.neg_mul]
  · simp only [h, decide_false, Bool.false_eq_true, if_false]
    rw [Int.natCast_mul, show ((a.natAbs : Nat) : Int) = a by omega]
    simp [Int.natCast_pow]

theorem pow_pos (k : Nat) : (0 : Int) < 2 ^ k := by
  have := Nat.two_pow_pos k
  have h : ((2 ^ k : Nat) : Int) = (2 : Int) ^ k := by simp
  omega

theorem write_int (c : Int) (k : Nat) (hc : c.natAbs < 2 ^ 53) (neg : Bool) (hneg : neg = decide (c < 0)) : double.write (.number neg (c * 2 ^ k).natAbs (-(k : Int))) = fl c := by
  subst hneg
  have e : (c * 2 ^ k).natAbs = c.natAbs * 2 ^ k := by rw [Int.natAbs_mul, Int.natAbs_pow]; rfl
  rw [e, write_fl _ _ _ hc]
  rfl

theorem lt_scale (c : Int) (k : Nat) : decide (c * 2 ^ k < 0) = decide (c < 0) := by
  have h := pow_pos k
  by_cases hc : c < 0
  · have : c * 2 ^ k < 0 := Int.mul_neg_of_neg_of_pos hc h
    simp [hc, this]
  · have : 0 ≤ c * 2 ^ k := Int.mul_nonneg (by omega) (by omega)
    simp [hc]; omega
theorem eq_scale (c : Int) (k : Nat) : (c * 2 ^ k = 0) ↔ c = 0 := by
  have h := pow_pos k
  constructor
  · intro e
    rcases Int.mul_eq_zero.1 e with e | e
    · exact e
    · omega
  · rintro rfl; simp

theorem add_fl (a b : Int) (ha : a.natAbs < 2 ^ 53) (hb : b.natAbs < 2 ^ 53) (hs : (a + b).natAbs < 2 ^ 53) : double.add (fl a) (fl b) = some (fl (a + b)) := by
  unfold Format.add
  rw [fl_eq, fl_eq, read_fl _ _ ha, read_fl _ _ hb]
  unfold Datum.sum
  dsimp only
  have hbase : min (-(dig a.natAbs : Int)) (-(dig b.natAbs : Int)) = -((max (dig a.natAbs) (dig b.natAbs) : Nat) : Int) := by omega
  rw [hbase]
  generalize hk : max (dig a.natAbs) (dig b.natAbs) = k
  rw [signed_scale a k (by omega), signed_scale b k (by omega), ← Int.add_mul]
  simp only [Option.map_some, Option.some.injEq]
  refine write_int (a + b) k hs _ ?_
  by_cases h0 : a + b = 0
  · rw [if_pos ((eq_scale _ k).2 h0), h0]
    by_cases h1 : a < 0
    · have : ¬ b < 0 := by omega
      simp [h1, this]
    · simp [h1]
  · rw [if_neg (fun e => h0 ((eq_scale _ k).1 e)), lt_scale]

theorem read_neg (b : Int) (hb : b.natAbs < 2 ^ 53) : (double.read (fl b)).opposite = .number (!decide (b < 0)) (b.natAbs * 2 ^ dig b.natAbs) (-(dig b.natAbs : Int)) := by
  rw [fl_eq, read_fl _ _ hb]; rfl
theorem signed_not (s : Bool) (m u : Nat) : signed (!s) m u = - signed s m u := by
  unfold signed; cases s <;> simp
theorem sub_fl (a b : Int) (ha : a.natAbs < 2 ^ 53) (hb : b.natAbs < 2 ^ 53) (hs : (a - b).natAbs < 2 ^ 53) : double.sub (fl a) (fl b) = some (fl (a - b)) := by
  unfold Format.sub
  rw [read_neg b hb, fl_eq, read_fl _ _ ha]
  unfold Datum.sum
  dsimp only
  have hbase : min (-(dig a.natAbs : Int)) (-(dig b.natAbs : Int)) = -((max (dig a.natAbs) (dig b.natAbs) : Nat) : Int) := by omega
  rw [hbase]
  generalize hk : max (dig a.natAbs) (dig b.natAbs) = k
  rw [signed_not, signed_scale a k (by omega), signed_scale b k (by omega), ← Int.neg_mul, ← Int.add_mul, ← Int.sub_eq_add_neg]
  simp only [Option.map_some, Option.some.injEq]
  refine write_int (a - b) k hs _ ?_
  by_cases h0 : a - b = 0
  · rw [if_pos ((eq_scale _ k).2 h0), h0]
    by_cases h1 : a < 0
    · have : b < 0 := by omega
      simp [h1, this]
    · simp [h1]
  · rw [if_neg (fun e => h0 ((eq_scale _ k).1 e)), lt_scale]

theorem order_fl (a b : Int) (ha : a.natAbs < 2 ^ 53) (hb : b.natAbs < 2 ^ 53) : double.order (fl a) (fl b) = some (compare a b) := by
  unfold Format.order
  rw [fl_eq, fl_eq, read_fl _ _ ha, read_fl _ _ hb]
  unfold Datum.order
  dsimp only
  have hbase : min (-(dig a.natAbs : Int)) (-(dig b.natAbs : Int)) = -((max (dig a.natAbs) (dig b.natAbs) : Nat) : Int) := by omega
  rw [hbase]
  generalize hk : max (dig a.natAbs) (dig b.natAbs) = k
  rw [signed_scale a k (by omega), signed_scale b k (by omega)]
  have h := pow_pos k
  congr 1
  simp only [compare, compareOfLessAndEq]
  have h1 : (a * 2 ^ k < b * 2 ^ k) ↔ a < b := ⟨fun e => Int.lt_of_mul_lt_mul_right e (by omega), fun e => Int.mul_lt_mul_of_pos_right e h⟩
  have h2 : (a * 2 ^ k = b * 2 ^ k) ↔ a = b := ⟨fun e => Int.eq_of_mul_eq_mul_right (by omega) e, fun e => by rw [e]⟩
  simp only [h1, h2]

theorem toInt_fl (a : Int) (ha : a.natAbs < 2 ^ 53) : (FloatKind.f64.decode (fl a)).toInt .zero = some a := by
  show (double.read (fl a)).toInt .zero = some a
  rw [fl_eq, read_fl _ _ ha]
  unfold Datum.toInt Datum.integral
  dsimp only
  have e1 : (-(dig a.natAbs : Int)).toNat = 0 := by omega
  have e2 : (- -(dig a.natAbs : Int)).toNat = dig a.natAbs := by omega
  rw [e1, e2, Nat.shiftLeft_zero, cut_exact]
  unfold signed
  congr 1
  by_cases h : a < 0
  · simp [h]; omega
  · simp [h]; omega
end Go.Proofs.YtnheibcjcgacpaaGreatDoor
