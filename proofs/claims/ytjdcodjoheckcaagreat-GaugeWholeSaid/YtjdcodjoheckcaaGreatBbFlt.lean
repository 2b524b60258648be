/-
  Doubles that stand for whole numbers times a power of two: sums, products and quotients that come out even.
-/
import Derived.Test.YtjdcodjoheckcaaGreatBbSym
namespace Go.Bb
open Ieee

theorem D_sw : double.signWeight = 9223372036854775808 := by decide +kernel
theorem D_bin : double.binade = 4503599627370496 := by decide +kernel
theorem D_inf : double.infRung = 9218868437227405312 := by decide +kernel
theorem D_lp : double.leastPlace = -1074 := by decide +kernel
theorem D_fb : double.fractionBits = 52 := rfl

theorem read_word (s : Bool) {r : Nat} (h : r < 9223372036854775808) : double.read (double.word s r) =
    (if r < 4503599627370496 then .number s r (-1074) else if r < 9218868437227405312 then .number s (4503599627370496 + r % 4503599627370496) (-1074 + (r / 4503599627370496 - 1 : Nat))
      else if r = 9218868437227405312 then .infinity s else .nan s (r - 9218868437227405312)) := by
  unfold Format.read
  rw [D_sw, D_bin, D_inf, D_lp]
  have h1 : double.word s r / 9223372036854775808 % 2 = s.toNat := by
    unfold Format.word; rw [D_sw]; cases s <;> simp <;> omega
  have h2 : double.word s r % 9223372036854775808 = r := by
    unfold Format.word; rw [D_sw]; cases s <;> simp <;> omega
  have h3 : (s.toNat == 1) = s := by cases s <;> rfl
  simp only [h1, h2, h3]

theorem cut0 (s : Bool) (n : Nat) : Toward.even.cut s n 0 = n := by
  unfold Toward.cut
  simp [Nat.mod_one]

theorem log2_mul {m j : Nat} (h : m ≠ 0) : (m * 2 ^ j).log2 = m.log2 + j := by
  have hp : 0 < 2 ^ j := Nat.pow_pos (by omega)
  have h0 : m * 2 ^ j ≠ 0 := Nat.mul_ne_zero h (by omega)
  rw [Nat.log2_eq_iff h0]
  have h1 := Nat.log2_self_le h
  have h2 := @Nat.lt_log2_self m
  constructor
  · rw [Nat.pow_add]; exact Nat.mul_le_mul_right _ h1
  · rw [show m.log2 + j + 1 = m.log2 + 1 + j by omega, Nat.pow_add]; exact Nat.mul_lt_mul_of_pos_right h2 hp

theorem log2_lt {m k : Nat} (h0 : m ≠ 0) (h : m < 2 ^ k) : m.log2 < k := by
  rcases Nat.lt_or_ge m.log2 k with h1 | h1
  · exact h1
  · have := Nat.log2_self_le h0
    have := Nat.pow_le_pow_right (show 0 < 2 by omega) h1
    omega

/-- the word of m * 2 ^ e, where that is even -/
theorem near_eq (s : Bool) {m : Nat} {e : Int} (h0 : m ≠ 0) (hm : m < 2 ^ 53) (he : -1000 ≤ e) (he' : e ≤ 900) :
    double.nearest s m e = double.word s ((e + m.log2 + 1022).toNat * 4503599627370496 + m * 2 ^ (52 - m.log2)) := by
  have hl := log2_lt h0 hm
  unfold Format.nearest
  rw [if_neg h0, D_lp, D_bin, D_inf, D_fb]
  have hmax : max (e + (m.log2 : Int) - (52 : Nat)) (-1074) = e + m.log2 - 52 := by
    rw [Int.max_def]; split <;> omega
  simp only [hmax]
  rw [show (e - (e + (m.log2 : Int) - 52)).toNat = 52 - m.log2 by omega, show (e + (m.log2 : Int) - 52 - e).toNat = 0 by omega, cut0, Nat.shiftLeft_eq,
    show (e + (m.log2 : Int) - 52 - -1074).toNat = (e + m.log2 + 1022).toNat by omega]
  congr 1
  have hk : m * 2 ^ (52 - m.log2) < 9007199254740992 := by
    have h1 := @Nat.lt_log2_self m
    have h2 : m * 2 ^ (52 - m.log2) < 2 ^ (m.log2 + 1) * 2 ^ (52 - m.log2) := Nat.mul_lt_mul_of_pos_right h1 (Nat.pow_pos (by omega))
    rw [← Nat.pow_add, show m.log2 + 1 + (52 - m.log2) = 53 by omega] at h2
    exact h2
  refine Nat.min_eq_left ?_
  have : (e + (m.log2 : Int) + 1022).toNat ≤ 1980 := by omega
  omega

theorem read_near (s : Bool) {m : Nat} {e : Int} (h0 : m ≠ 0) (hm : m < 2 ^ 53) (he : -1000 ≤ e) (he' : e ≤ 900) :
    double.read (double.nearest s m e) = .number s (m * 2 ^ (52 - m.log2)) (e - (52 - m.log2 : Nat)) := by
  have hl := log2_lt h0 hm
  rw [near_eq s h0 hm he he']
  have hk : m * 2 ^ (52 - m.log2) < 9007199254740992 := by
    have h1 := @Nat.lt_log2_self m
    have h2 : m * 2 ^ (52 - m.log2) < 2 ^ (m.log2 + 1) * 2 ^ (52 - m.log2) := Nat.mul_lt_mul_of_pos_right h1 (Nat.pow_pos (by omega))
    rw [← Nat.pow_add, show m.log2 + 1 + (52 - m.log2) = 53 by omega] at h2
    exact h2
  have hk2 : 4503599627370496 ≤ m * 2 ^ (52 - m.log2) := by
    have h1 := Nat.mul_le_mul_right (2 ^ (52 - m.log2)) (Nat.log2_self_le h0)
    rw [← Nat.pow_add, show m.log2 + (52 - m.log2) = 52 by omega] at h1
    exact h1
  generalize m * 2 ^ (52 - m.log2) = K at hk hk2 ⊢
  have hE : (e + (m.log2 : Int) + 1022).toNat ≤ 1980 := by omega
  have hE2 : (((e + (m.log2 : Int) + 1022).toNat : Nat) : Int) = e + m.log2 + 1022 := Int.toNat_of_nonneg (by omega)
  generalize (e + (m.log2 : Int) + 1022).toNat = E at hE hE2 ⊢
  rw [read_word s (by omega), if_neg (by omega), if_pos (by omega)]
  have h1 : (E * 4503599627370496 + K) % 4503599627370496 = K - 4503599627370496 := by omega
  have h2 : (E * 4503599627370496 + K) / 4503599627370496 = E + 1 := by omega
  rw [h1, h2, show 4503599627370496 + (K - 4503599627370496) = K by omega, show (-1074 + ((E + 1 - 1 : Nat) : Int)) = e - ((52 - m.log2 : Nat) : Int) by omega]

theorem cut_pow (s : Bool) {m j d : Nat} (h0 : m ≠ 0) (hd : d ≤ j) : Toward.even.cut s (m * 2 ^ j) d = m * 2 ^ (j - d) := by
  unfold Toward.cut
  have hmin : min d ((m * 2 ^ j).log2 + 2) = d := Nat.min_eq_left (by rw [log2_mul h0]; omega)
  simp only [hmin, Nat.one_shiftLeft]
  have hp : 0 < 2 ^ d := Nat.pow_pos (by omega)
  have e1 : m * 2 ^ j = m * 2 ^ (j - d) * 2 ^ d := by rw [Nat.mul_assoc, ← Nat.pow_add, show j - d + d = j by omega]
  rw [e1, Nat.mul_div_cancel _ hp, Nat.mul_mod_left]
  simp

/-- where the point stands is all the same -/
theorem near_scale (s : Bool) {m : Nat} {j : Nat} {e : Int} (h0 : m ≠ 0) (hm : m < 2 ^ 53) (he : -1000 ≤ e) (he' : e ≤ 900) : double.nearest s (m * 2 ^ j) (e - j) = double.nearest s m e := by
  have hl := log2_lt h0 hm
  have h0' : m * 2 ^ j ≠ 0 := Nat.mul_ne_zero h0 (by have : 0 < 2 ^ j := Nat.pow_pos (by omega); omega)
  unfold Format.nearest
  rw [if_neg h0, if_neg h0', log2_mul h0, D_lp, D_bin, D_inf, D_fb]
  have hmax : max (e + (m.log2 : Int) - (52 : Nat)) (-1074) = e + m.log2 - 52 := by
    rw [Int.max_def]; split <;> omega
  have hmax' : max (e - (j : Int) + ((m.log2 + j : Nat) : Int) - (52 : Nat)) (-1074) = e + m.log2 - 52 := by
    rw [Int.max_def]; split <;> omega
  simp only [hmax, hmax']
  congr 3
  rw [show (e - (e + (m.log2 : Int) - 52)).toNat = 52 - m.log2 by omega, show (e + (m.log2 : Int) - 52 - e).toNat = 0 by omega, cut0, Nat.shiftLeft_eq, Nat.shiftLeft_eq]
  by_cases hc : j ≤ 52 - m.log2
  · rw [show (e - (j : Int) - (e + (m.log2 : Int) - 52)).toNat = 52 - m.log2 - j by omega, show (e + (m.log2 : Int) - 52 - (e - (j : Int))).toNat = 0 by omega, cut0,
      Nat.mul_assoc, ← Nat.pow_add, show j + (52 - m.log2 - j) = 52 - m.log2 by omega]
  · rw [show (e - (j : Int) - (e + (m.log2 : Int) - 52)).toNat = 0 by omega, show (e + (m.log2 : Int) - 52 - (e - (j : Int))).toNat = j - (52 - m.log2) by omega, Nat.pow_zero, Nat.mul_one, cut_pow s h0 (by omega),
      show j - (j - (52 - m.log2)) = 52 - m.log2 by omega]

/-- the double of z * 2 ^ e -/
def dy (z : Int) (e : Int) : Nat := double.nearest (decide (z < 0)) z.natAbs e
/-- the double of a whole number -/
abbrev fl (z : Int) : Nat := dy z 0
theorem nearest_fl (z : Int) : FloatKind.f64.nearest z = fl z := rfl

theorem dy_zero (e : Int) : dy 0 e = 0 := by
  have : double.word false 0 = 0 := by decide +kernel
  simpa [dy, Format.nearest] using this

theorem dy_scale {z : Int} {e : Int} (j : Nat) (hz : z.natAbs < 2 ^ 53) (he : -1000 ≤ e) (he' : e ≤ 900) : dy (z * 2 ^ j) (e - j) = dy z e := by
  by_cases h0 : z = 0
  · subst h0; rw [Int.zero_mul, dy_zero, dy_zero]
  · unfold dy
    have hp : (0 : Int) < 2 ^ j := Int.pow_pos (by omega)
    have h1 : (z * 2 ^ j).natAbs = z.natAbs * 2 ^ j := by rw [Int.natAbs_mul, Int.natAbs_pow]; rfl
    have h2 : decide (z * 2 ^ j < 0) = decide (z < 0) := by
      rw [decide_eq_decide]
      constructor
      · intro h
        rcases Int.lt_or_le z 0 with h' | h'
        · exact h'
        · have := Int.mul_nonneg h' (Int.le_of_lt hp); omega
      · intro h; exact Int.mul_neg_of_neg_of_pos h hp
    rw [h1, h2, near_scale _ (by omega) hz he he']

/-- a word that stands for z * 2 ^ e -/
def Is (b : Nat) (z : Int) (e : Int) : Prop := ∃ s m i, double.read b = .number s m i ∧ i ≤ e ∧ signed s m 0 = z * 2 ^ (e - i).toNat

theorem signed_eq (s : Bool) (m k : Nat) : signed s m k = signed s m 0 * 2 ^ k := by
  unfold signed
  cases s <;> simp [Nat.shiftLeft_eq, Int.neg_mul]
theorem signed_zero {s : Bool} {m : Nat} : signed s m 0 = 0 ↔ m = 0 := by unfold signed; cases s <;> simp
theorem signed_abs (s : Bool) (m : Nat) : (signed s m 0).natAbs = m := by unfold signed; cases s <;> simp
theorem signed_neg {s : Bool} {m : Nat} (h : m ≠ 0) : decide (signed s m 0 < 0) = s := by
  unfold signed; cases s <;> simp <;> omega

theorem read_zero (s : Bool) : double.read (double.word s 0) = .number s 0 (-1074) := by
  rw [read_word s (by omega), if_pos (by omega)]

theorem is_dy {z : Int} {e : Int} (hz : z.natAbs < 2 ^ 53) (he : -1000 ≤ e) (he' : e ≤ 900) : Is (dy z e) z e := by
  by_cases h0 : z = 0
  · subst h0
    refine ⟨false, 0, -1074, ?_, by omega, by simp [signed]⟩
    rw [dy_zero]; exact read_zero false
  · have hl := log2_lt (show z.natAbs ≠ 0 by omega) hz
    refine ⟨_, _, _, read_near _ (by omega) hz he he', by omega, ?_⟩
    rw [show (e - (e - ((52 - z.natAbs.log2 : Nat) : Int))).toNat = 52 - z.natAbs.log2 by omega]
    generalize 52 - z.natAbs.log2 = k
    unfold signed
    by_cases hn : z < 0
    · rw [if_pos (by simpa using hn), Nat.shiftLeft_zero, Int.natCast_mul, Int.natCast_pow, ← Int.neg_mul]
      congr 1; omega
    · rw [if_neg (by simpa using hn), Nat.shiftLeft_zero, Int.natCast_mul, Int.natCast_pow]
      congr 1; omega

theorem f64_double : FloatKind.f64.format = double := rfl

theorem sum_is {x : Nat} {d : Datum} {z1 z2 e : Int} (hx : x = dy z1 e) (h1 : z1.natAbs < 2 ^ 53) (hy : ∃ s m i, d = .number s m i ∧ i ≤ e ∧ signed s m 0 = z2 * 2 ^ (e - i).toNat) (h3 : (z1 + z2).natAbs < 2 ^ 53) (he : -1000 ≤ e) (he' : e ≤ 900) :
    ((double.read x).sum d).map double.write = some (dy (z1 + z2) e) := by
  have hx0 : z1 = 0 → x = 0 := fun h => by rw [hx, h, dy_zero]
  have hxs := is_dy h1 he he'
  rw [← hx] at hxs
  obtain ⟨s, m, i, r1, hi, v1⟩ := hxs
  obtain ⟨t, n, j, r2, hj, v2⟩ := hy
  rw [r1, r2]
  have hb : min i j ≤ e := Int.le_trans (Int.min_le_left i j) hi
  have hbi : min i j ≤ i := Int.min_le_left i j
  have hbj : min i j ≤ j := Int.min_le_right i j
  have ht : signed s m (i - min i j).toNat + signed t n (j - min i j).toNat = (z1 + z2) * 2 ^ (e - min i j).toNat := by
    rw [signed_eq s m, signed_eq t n, v1, v2, Int.mul_assoc, Int.mul_assoc, ← Int.pow_add, ← Int.pow_add, show (e - i).toNat + (i - min i j).toNat = (e - min i j).toNat by omega,
      show (e - j).toNat + (j - min i j).toNat = (e - min i j).toNat by omega, ← Int.add_mul]
  have hp : (0 : Int) < 2 ^ (e - min i j).toNat := Int.pow_pos (by omega)
  show some (double.write (.number (if signed s m (i - min i j).toNat + signed t n (j - min i j).toNat = 0 then s && t else decide (signed s m (i - min i j).toNat + signed t n (j - min i j).toNat < 0))
    (signed s m (i - min i j).toNat + signed t n (j - min i j).toNat).natAbs (min i j))) = _
  rw [ht]
  congr 1
  by_cases h0 : z1 + z2 = 0
  · rw [h0, dy_zero, Int.zero_mul, if_pos rfl]
    have hst : (s && t) = false := by
      by_cases hz : z1 = 0
      · have := hx0 hz
        rw [this, show (0 : Nat) = double.word false 0 from (by decide +kernel), read_zero] at r1
        cases r1; rfl
      · have hm : m ≠ 0 := fun hm => by
          have hq : (0 : Int) < 2 ^ (e - i).toNat := Int.pow_pos (by omega)
          have := signed_zero (s := s).2 hm
          rw [v1] at this
          rcases Int.mul_eq_zero.1 this with h | h <;> omega
        have hn : n ≠ 0 := fun hm => by
          have hq : (0 : Int) < 2 ^ (e - j).toNat := Int.pow_pos (by omega)
          have := signed_zero (s := t).2 hm
          rw [v2] at this
          rcases Int.mul_eq_zero.1 this with h | h <;> omega
        rw [← signed_neg (s := s) hm, ← signed_neg (s := t) hn, v1, v2]
        have hq1 : (0 : Int) < 2 ^ (e - i).toNat := Int.pow_pos (by omega)
        have hq2 : (0 : Int) < 2 ^ (e - j).toNat := Int.pow_pos (by omega)
        rcases Int.lt_or_le z1 0 with h | h
        · have := Int.mul_pos (show 0 < z2 by omega) hq2
          simp; omega
        · have := Int.mul_pos (show 0 < z1 by omega) hq1
          simp; omega
    rw [hst]
    show double.nearest false 0 _ = 0
    unfold Format.nearest
    rw [if_pos rfl]; decide +kernel
  · have hne : (z1 + z2) * 2 ^ (e - min i j).toNat ≠ 0 := fun h => by rcases Int.mul_eq_zero.1 h with h | h <;> omega
    rw [if_neg hne]
    have := dy_scale (z := z1 + z2) (e := e) (e - min i j).toNat h3 he he'
    rw [← this]
    unfold dy
    rw [show e - ((e - min i j).toNat : Int) = min i j by omega]
    rfl

theorem add_is {x y : Nat} {z1 z2 e : Int} (hx : x = dy z1 e) (h1 : z1.natAbs < 2 ^ 53) (hy : Is y z2 e) (h3 : (z1 + z2).natAbs < 2 ^ 53) (he : -1000 ≤ e) (he' : e ≤ 900) :
    arithF .add x y = some (dy (z1 + z2) e) := sum_is hx h1 hy h3 he he'
theorem sub_is {x y : Nat} {z1 z2 e : Int} (hx : x = dy z1 e) (h1 : z1.natAbs < 2 ^ 53) (hy : Is y z2 e) (h3 : (z1 - z2).natAbs < 2 ^ 53) (he : -1000 ≤ e) (he' : e ≤ 900) :
    arithF .sub x y = some (dy (z1 - z2) e) := by
  have : arithF .sub x y = ((double.read x).sum (double.read y).opposite).map double.write := rfl
  rw [this, Int.sub_eq_add_neg]
  refine sum_is hx h1 ?_ (by rw [← Int.sub_eq_add_neg]; exact h3) he he'
  obtain ⟨s, m, i, r, hi, v⟩ := hy
  refine ⟨!s, m, i, by rw [r]; rfl, hi, ?_⟩
  have : signed (!s) m 0 = -signed s m 0 := by unfold signed; cases s <;> simp
  rw [this, v, Int.neg_mul]

theorem mul_is {x y : Nat} {z1 z2 e1 e2 : Int} (hx : Is x z1 e1) (hy : Is y z2 e2) (h3 : (z1 * z2).natAbs < 2 ^ 53) (he : -1000 ≤ e1 + e2) (he' : e1 + e2 ≤ 900) :
    ∃ w, arithF .mul x y = some w ∧ Is w (z1 * z2) (e1 + e2) ∧ (z1 * z2 ≠ 0 → w = dy (z1 * z2) (e1 + e2)) := by
  obtain ⟨s, m, i, r1, hi, v1⟩ := hx
  obtain ⟨t, n, j, r2, hj, v2⟩ := hy
  have e0 : arithF .mul x y = some (double.nearest (s ^^ t) (m * n) (i + j)) := by
    show double.mul x y = _
    unfold Format.mul
    rw [r1, r2]; rfl
  have hv : signed (s ^^ t) (m * n) 0 = (z1 * z2) * 2 ^ (e1 + e2 - (i + j)).toNat := by
    have : signed (s ^^ t) (m * n) 0 = signed s m 0 * signed t n 0 := by
      unfold signed; cases s <;> cases t <;> simp [Int.neg_mul, Int.mul_neg]
    rw [this, v1, v2, show (e1 + e2 - (i + j)).toNat = (e1 - i).toNat + (e2 - j).toNat by omega, Int.pow_add]
    ac_rfl
  by_cases h0 : z1 * z2 = 0
  · have hmn : m * n = 0 := by
      rw [h0, Int.zero_mul] at hv; exact signed_zero.1 hv
    have ew : double.nearest (s ^^ t) (m * n) (i + j) = double.word (s ^^ t) 0 := by unfold Format.nearest; rw [if_pos hmn]
    rw [ew] at e0
    exact ⟨_, e0, ⟨_, _, _, read_zero _, by omega, by rw [h0]; unfold signed; cases s <;> cases t <;> simp⟩, fun h => absurd h0 h⟩
  · have hmn : m * n ≠ 0 := fun h => by
      have := signed_zero (s := s ^^ t).2 h
      rw [hv] at this
      have hq : (0 : Int) < 2 ^ (e1 + e2 - (i + j)).toNat := Int.pow_pos (by omega)
      rcases Int.mul_eq_zero.1 this with h | h <;> omega
    have ew : double.nearest (s ^^ t) (m * n) (i + j) = dy (z1 * z2) (e1 + e2) := by
      rw [← dy_scale (z := z1 * z2) (e := e1 + e2) (e1 + e2 - (i + j)).toNat h3 he he']
      unfold dy
      rw [← hv, signed_abs, signed_neg hmn]
      congr 1; omega
    rw [ew] at e0
    exact ⟨_, e0, is_dy h3 he he', fun _ => rfl⟩

theorem eql_is {x y : Nat} {z e : Int} (hx : Is x z e) (hy : Is y z e) : cmpF .eql x y = true := by
  obtain ⟨s, m, i, r1, hi, v1⟩ := hx
  obtain ⟨t, n, j, r2, hj, v2⟩ := hy
  have : double.order x y = some .eq := by
    unfold Format.order
    rw [r1, r2]
    have hbi : min i j ≤ i := Int.min_le_left i j
    have hbj : min i j ≤ j := Int.min_le_right i j
    show some (compare (signed s m (i - min i j).toNat) (signed t n (j - min i j).toNat)) = _
    rw [signed_eq s m, signed_eq t n, v1, v2, Int.mul_assoc, Int.mul_assoc, ← Int.pow_add, ← Int.pow_add, show (e - i).toNat + (i - min i j).toNat = (e - j).toNat + (j - min i j).toNat by omega]
    rw [show ∀ a : Int, compare a a = .eq from fun a => by simp]
  show (double.order x y == some .eq) = true
  rw [this]; rfl

/-- what is written of a number equals itself -/
theorem eql_near (s : Bool) (m : Nat) (e : Int) : cmpF .eql (double.nearest s m e) (double.nearest s m e) = true := by
  have hw : ∃ r, double.nearest s m e = double.word s r ∧ r ≤ 9218868437227405312 := by
    unfold Format.nearest
    by_cases h0 : m = 0
    · exact ⟨0, by rw [if_pos h0], by omega⟩
    · rw [if_neg h0]; exact ⟨_, rfl, by rw [D_inf]; exact Nat.min_le_right _ _⟩
  obtain ⟨r, hr, hle⟩ := hw
  rw [hr]
  have : double.order (double.word s r) (double.word s r) = some .eq := by
    unfold Format.order
    rw [read_word s (by omega)]
    by_cases h1 : r < 4503599627370496
    · rw [if_pos h1]; show some (compare _ _) = _; simp
    · rw [if_neg h1]
      by_cases h2 : r < 9218868437227405312
      · rw [if_pos h2]; show some (compare _ _) = _; simp
      · rw [if_neg h2, if_pos (by omega)]; show some (compare _ _) = _; simp
  show (double.order _ _ == some .eq) = true
  rw [this]; rfl

theorem quot_num (d : Nat) (s t : Bool) (m : Nat) {n : Nat} (i j : Int) (h : n ≠ 0) : Datum.quotient d (.number s m i) (.number t n j) =
    some (.number (s ^^ t) (2 * (m <<< (d + n.log2 - m.log2) / n) + (m <<< (d + n.log2 - m.log2) % n != 0).toNat) (i - j - (d + n.log2 - m.log2 : Nat) - 1)) := by
  unfold Datum.quotient
  simp only [if_neg h]

theorem div_near {x y : Nat} {z1 z2 e1 e2 : Int} (hx : Is x z1 e1) (hy : Is y z2 e2) (h0 : z2 ≠ 0) : ∃ s m e, arithF .quo x y = some (double.nearest s m e) := by
  obtain ⟨s, m, i, r1, hi, v1⟩ := hx
  obtain ⟨t, n, j, r2, hj, v2⟩ := hy
  have hn : n ≠ 0 := fun h => by
    have := signed_zero (s := t).2 h
    rw [v2] at this
    have hq : (0 : Int) < 2 ^ (e2 - j).toNat := Int.pow_pos (by omega)
    rcases Int.mul_eq_zero.1 this with h | h <;> omega
  have : arithF .quo x y = (Datum.quotient (double.fractionBits + 2) (double.read x) (double.read y)).map double.write := rfl
  rw [this, r1, r2, quot_num _ _ _ _ _ _ hn]
  exact ⟨_, _, _, rfl⟩

/-- a quotient that comes out even -/
theorem div_is {n : Nat} {a e : Int} (hn : n ≠ 0) (hn' : n < 2 ^ 53) (ha : ((n : Int) * a).natAbs < 2 ^ 53) (he : -900 ≤ e) (he' : e ≤ 800) :
    arithF .quo (dy (n * a) e) (fl n) = some (dy a e) := by
  have ha' : a.natAbs < 2 ^ 53 := by
    rw [Int.natAbs_mul, Int.natAbs_natCast] at ha
    have : a.natAbs ≤ n * a.natAbs := Nat.le_mul_of_pos_left _ (by omega)
    omega
  have hl := log2_lt hn hn'
  have r2 : double.read (fl n) = .number false (n * 2 ^ (52 - n.log2)) (0 - (52 - n.log2 : Nat)) := by
    have := read_near false (m := n) (e := 0) hn hn' (by omega) (by omega)
    unfold fl dy
    rw [show decide ((n : Int) < 0) = false by simp, Int.natAbs_natCast]
    exact this
  have hy : n * 2 ^ (52 - n.log2) ≠ 0 := Nat.mul_ne_zero hn (by have : 0 < 2 ^ (52 - n.log2) := Nat.pow_pos (by omega); omega)
  have hlog : (n * 2 ^ (52 - n.log2)).log2 = 52 := by rw [log2_mul hn]; omega
  have e0 : arithF .quo (dy (n * a) e) (fl n) = (Datum.quotient (double.fractionBits + 2) (double.read (dy (n * a) e)) (double.read (fl n))).map double.write := rfl
  rw [e0, r2, D_fb]
  by_cases h0 : a = 0
  · subst h0
    have r0 : double.read 0 = .number false 0 (-1074) := by
      have := read_zero false
      rwa [show double.word false 0 = 0 from (by decide +kernel)] at this
    rw [Int.mul_zero]
    simp only [dy_zero]
    rw [r0, quot_num _ _ _ _ _ _ hy, Nat.zero_shiftLeft, Nat.zero_div, Nat.zero_mod]
    rw [show (2 * 0 + ((0 : Nat) != 0).toNat) = 0 from rfl, Option.map_some]
    refine congrArg some ?_
    show double.nearest _ 0 _ = 0
    unfold Format.nearest
    rw [if_pos rfl]; decide +kernel
  · have hna : ((n : Int) * a).natAbs ≠ 0 := by
      rw [Int.natAbs_mul, Int.natAbs_natCast]; exact Nat.mul_ne_zero hn (by omega)
    have hl2 := log2_lt hna ha
    have hs : decide ((n : Int) * a < 0) = decide (a < 0) := by
      rw [decide_eq_decide]
      constructor
      · intro h
        rcases Int.lt_or_le a 0 with h' | h'
        · exact h'
        · have := Int.mul_nonneg (show (0 : Int) ≤ n by omega) h'; omega
      · intro h; exact Int.mul_neg_of_pos_of_neg (by omega) h
    have r1 : double.read (dy (n * a) e) = .number (decide (a < 0)) (((n : Int) * a).natAbs * 2 ^ (52 - ((n : Int) * a).natAbs.log2)) (e - (52 - ((n : Int) * a).natAbs.log2 : Nat)) := by
      unfold dy; rw [read_near _ hna ha (by omega) (by omega), hs]
    have hlog1 : (((n : Int) * a).natAbs * 2 ^ (52 - ((n : Int) * a).natAbs.log2)).log2 = 52 := by rw [log2_mul hna]; omega
    rw [r1, quot_num _ _ _ _ _ _ hy, hlog, hlog1, Bool.xor_false, Option.map_some]
    refine congrArg some ?_
    have hL : n.log2 ≤ ((n : Int) * a).natAbs.log2 := by
      rw [Int.natAbs_mul, Int.natAbs_natCast]
      rcases Nat.lt_or_ge ((n * a.natAbs).log2) n.log2 with h | h
      · exfalso
        have h1 := @Nat.lt_log2_self (n * a.natAbs)
        have h2 := Nat.log2_self_le hn
        have h3 := Nat.pow_le_pow_right (show 0 < 2 by omega) (show (n * a.natAbs).log2 + 1 ≤ n.log2 by omega)
        have : n ≤ n * a.natAbs := Nat.le_mul_of_pos_right _ (by omega)
        omega
      · exact h
    have hna' : ((n : Int) * a).natAbs = n * a.natAbs := by rw [Int.natAbs_mul, Int.natAbs_natCast]
    rw [hna'] at hL hl2 ⊢
    generalize (n * a.natAbs).log2 = L at hL hl2 ⊢
    generalize n.log2 = l at hL hl hy ⊢
    have hdiv : (n * a.natAbs * 2 ^ (52 - L)) <<< (52 + 2 + 52 - 52) = (a.natAbs * 2 ^ (54 - L + l)) * (n * 2 ^ (52 - l)) := by
      rw [Nat.shiftLeft_eq, Nat.mul_assoc, ← Nat.pow_add, show 52 - L + (52 + 2 + 52 - 52) = (54 - L + l) + (52 - l) by omega, Nat.pow_add]
      ac_rfl
    rw [hdiv, Nat.mul_div_cancel _ (by omega), Nat.mul_mod_left, show ((0 : Nat) != 0).toNat = 0 from rfl, Nat.add_zero]
    show double.nearest _ _ _ = _
    rw [show 2 * (a.natAbs * 2 ^ (54 - L + l)) = a.natAbs * 2 ^ (54 - L + l + 1) by rw [Nat.pow_succ]; ac_rfl]
    show _ = double.nearest (decide (a < 0)) a.natAbs e
    rw [← near_scale (decide (a < 0)) (j := 54 - L + l + 1) (e := e) (show a.natAbs ≠ 0 by omega) ha' (by omega) (by omega)]
    refine congrArg _ ?_
    omega

/-- negative zero -/
def nz : Nat := 9223372036854775808
theorem nz_word : nz = double.word true 0 := by decide +kernel
theorem is_nz {e : Int} (he : -1000 ≤ e) : Is nz 0 e := ⟨true, 0, -1074, by rw [nz_word]; exact read_zero true, by omega, by simp [signed]⟩

theorem neg_word (s : Bool) {r : Nat} (hr : r < 9223372036854775808) : Op.negFloat .f64 (double.word s r) = double.word (!s) r := by
  unfold Op.negFloat
  show double.word s r ^^^ 2 ^ 63 = _
  have hx : ∀ r : Nat, r < 2 ^ 63 → r ^^^ 2 ^ 63 = r + 2 ^ 63 := by
    intro r hr
    rw [Nat.xor_comm, show (2 : Nat) ^ 63 ^^^ r = 2 ^ 63 ||| r from ?_]
    · rw [show (2 : Nat) ^ 63 = 2 ^ 63 * 1 by omega, ← Nat.two_pow_add_eq_or_of_lt hr]; omega
    · apply Nat.eq_of_testBit_eq
      intro i
      rw [Nat.testBit_xor, Nat.testBit_or, Nat.testBit_two_pow]
      by_cases hi : 63 = i
      · subst hi; rw [Nat.testBit_lt_two_pow hr]; simp
      · simp [hi]
  unfold Format.word
  rw [D_sw]
  cases s with
  | false =>
    show r ^^^ 2 ^ 63 = 9223372036854775808 + r
    rw [hx r (by omega)]; omega
  | true =>
    show (9223372036854775808 + r) ^^^ 2 ^ 63 = r
    rw [show 9223372036854775808 + r = r ^^^ 2 ^ 63 by rw [hx r (by omega)]; omega, Nat.xor_assoc, Nat.xor_self, Nat.xor_zero]

theorem near_lt (s : Bool) (m : Nat) (e : Int) : ∃ r, double.nearest s m e = double.word s r ∧ r < 9223372036854775808 ∧ (∀ t, double.nearest t m e = double.word t r) := by
  unfold Format.nearest
  by_cases h0 : m = 0
  · exact ⟨0, by rw [if_pos h0], by omega, fun t => by rw [if_pos h0]⟩
  · simp only [if_neg h0]
    exact ⟨_, rfl, by have := Nat.min_le_right ((max (e + (m.log2 : Int) - (double.fractionBits : Int)) double.leastPlace - double.leastPlace).toNat * double.binade +
      Toward.even.cut s (m <<< (e - max (e + (m.log2 : Int) - (double.fractionBits : Int)) double.leastPlace).toNat) (max (e + (m.log2 : Int) - (double.fractionBits : Int)) double.leastPlace - e).toNat) double.infRung; rw [D_inf] at this ⊢; omega,
      fun t => rfl⟩

theorem neg_dy {z e : Int} (h0 : z ≠ 0) : Op.negFloat .f64 (dy z e) = dy (-z) e := by
  unfold dy
  obtain ⟨r, h1, h2, h3⟩ := near_lt (decide (z < 0)) z.natAbs e
  rw [Int.natAbs_neg, h1, h3, neg_word _ h2]
  congr 1
  rw [Bool.eq_iff_iff]; simp; omega

/-- a whole number's double, or the negative zero -/
def Near (b : Nat) (z : Int) : Prop := b = fl z ∨ (z = 0 ∧ b = nz)
theorem Near.fl (z : Int) : Near (fl z) z := .inl rfl
theorem Near.is {b : Nat} {z : Int} (h : Near b z) (hz : z.natAbs < 2 ^ 53) : Is b z 0 := by
  rcases h with rfl | ⟨rfl, rfl⟩
  · exact is_dy hz (by omega) (by omega)
  · exact is_nz (by omega)
theorem Near.neg {b : Nat} {z : Int} (h : Near b z) : Near (Op.negFloat .f64 b) (-z) := by
  rcases h with rfl | ⟨rfl, rfl⟩
  · by_cases h0 : z = 0
    · subst h0
      refine .inr ⟨rfl, ?_⟩
      rw [show Go.Bb.fl 0 = double.word false 0 from (by decide +kernel), neg_word _ (by omega), nz_word]; rfl
    · exact .inl (neg_dy h0)
  · refine .inl ?_
    rw [nz_word, neg_word _ (by omega)]
    decide +kernel
end Go.Bb
