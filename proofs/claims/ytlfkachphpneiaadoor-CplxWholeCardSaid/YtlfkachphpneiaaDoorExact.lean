/- Floats that stand for small whole numbers: sums, differences, products of them are exact; squares of words of one size are one word. -/
import Derived.Test.YtlfkachphpneiaaDoorFloat
import Derived.Laws.Cover2
namespace Go.Proofs.YtlfkachphpneiaaDoor
open Ieee

def sg (s : Bool) (m : Nat) : Int := if s then -(m : Int) else m
theorem signed_eq (s : Bool) (m u : Nat) : Ieee.signed s m u = sg s m * 2 ^ u := by
  unfold Ieee.signed sg
  rw [Nat.shiftLeft_eq]
  cases s <;> simp [Int.neg_mul]
theorem sg_mul (s t : Bool) (m n : Nat) : sg (s ^^ t) (m * n) = sg s m * sg t n := by
  unfold sg
  cases s <;> cases t <;> simp [Int.neg_mul, Int.mul_neg]
theorem sg_abs (s : Bool) (m : Nat) : (sg s m).natAbs = m := by unfold sg; cases s <;> simp
theorem sg_of (z : Int) (b : Bool) : sg (if z = 0 then b else decide (z < 0)) z.natAbs = z := by
  unfold sg
  by_cases h : z = 0
  · subst h; cases b <;> rfl
  · rw [if_neg h]
    by_cases h2 : z < 0
    · rw [decide_eq_true h2, if_pos rfl]; omega
    · rw [decide_eq_false h2, if_neg (by decide)]; omega
theorem two_pos (k : Nat) : (0 : Int) < 2 ^ k := Int.pow_pos (by decide)
/-- A sign, a size and a place stand for a whole number. -/
def Vl (s : Bool) (m : Nat) (i n : Int) : Prop := ∀ k : Nat, 0 ≤ i + k → sg s m * 2 ^ (i + k).toNat = n * 2 ^ k
theorem Vl.of_one {s : Bool} {m : Nat} {i n : Int} (k0 : Nat) (h0 : 0 ≤ i + k0) (h : sg s m * 2 ^ (i + k0).toNat = n * 2 ^ k0) : Vl s m i n := by
  intro k hk
  rcases Nat.le_total k0 k with hle | hle
  · obtain ⟨d, rfl⟩ := Nat.exists_eq_add_of_le hle
    rw [show (i + ((k0 + d : Nat) : Int)).toNat = (i + k0).toNat + d by omega, Int.pow_add, Int.pow_add, ← Int.mul_assoc, h, Int.mul_assoc]
  · obtain ⟨d, rfl⟩ := Nat.exists_eq_add_of_le hle
    rw [show (i + ((k + d : Nat) : Int)).toNat = (i + k).toNat + d by omega, Int.pow_add, Int.pow_add, ← Int.mul_assoc, ← Int.mul_assoc] at h
    exact Int.eq_of_mul_eq_mul_right (Int.ne_of_gt (two_pos d)) h
theorem Vl.at {s : Bool} {m : Nat} {i n : Int} (h : Vl s m i n) (b : Int) (hb : b ≤ i) : sg s m * 2 ^ (i - b).toNat * 2 ^ (b + (-b).toNat).toNat = n * 2 ^ (-b).toNat := by
  have := h (-b).toNat (by omega)
  rw [show (i + ((-b).toNat : Int)).toNat = (i - b).toNat + (b + (-b).toNat).toNat by omega, Int.pow_add, ← Int.mul_assoc] at this
  exact this
/-- A word stands for a whole number. -/
def VI (p : Nat) (n : Int) : Prop := ∃ s m i, Ieee.double.read p = .number s m i ∧ Vl s m i n
theorem VI.eq {p q : Nat} {n m : Int} (hp : VI p n) (hq : VI q m) : (FloatKind.f64.format.order p q == some .eq) = decide (n = m) := by
  obtain ⟨s, a, i, e1, h1⟩ := hp
  obtain ⟨t, b, j, e2, h2⟩ := hq
  show ((Ieee.double.read p).order (Ieee.double.read q) == some .eq) = _
  rw [e1, e2]
  simp only [Ieee.Datum.order, signed_eq]
  have g1 := h1.at (min i j) (by omega)
  have g2 := h2.at (min i j) (by omega)
  generalize sg s a * 2 ^ (i - min i j).toNat = X at g1 ⊢
  generalize sg t b * 2 ^ (j - min i j).toNat = Y at g2 ⊢
  have c1 := two_pos (min i j + (-min i j).toNat).toNat
  have c2 := two_pos (-min i j).toNat
  generalize (2 : Int) ^ (min i j + (-min i j).toNat).toNat = c at *
  generalize (2 : Int) ^ (-min i j).toNat = d at *
  have key : X = Y ↔ n = m := by
    constructor
    · rintro rfl
      rw [g1] at g2
      exact Int.eq_of_mul_eq_mul_right (Int.ne_of_gt c2) g2
    · rintro rfl
      rw [← g2] at g1
      exact Int.eq_of_mul_eq_mul_right (Int.ne_of_gt c1) g1
  by_cases hXY : X = Y
  · rw [decide_eq_true (key.1 hXY), hXY]; simp
  · rw [decide_eq_false (fun h => hXY (key.2 h))]
    simp [hXY]
theorem nearest_norm (neg : Bool) (mag : Nat) (place : Int) (hm : mag ≠ 0) (h1 : 0 ≤ place + mag.log2) (h2 : place + mag.log2 ≤ 52) (hd : 2 ^ (mag.log2 - 52) ∣ mag) :
    ∃ kept, Ieee.double.read (Ieee.double.nearest neg mag place) = .number neg kept (place + mag.log2 - 52) ∧ kept * 2 ^ (mag.log2 - 52) = mag * 2 ^ (52 - mag.log2) := by
  have c1 : Ieee.double.signWeight = 9223372036854775808 := by decide
  have c2 : Ieee.double.binade = 4503599627370496 := by decide
  have c3 : Ieee.double.infRung = 9218868437227405312 := by decide
  have c4 : Ieee.double.leastPlace = -1074 := by decide
  have c5 : Ieee.double.fractionBits = 52 := rfl
  have b1 := Nat.log2_self_le hm
  have b2 := Nat.lt_log2_self (n := mag)
  obtain ⟨l, hl⟩ : ∃ l, l = mag.log2 := ⟨_, rfl⟩
  unfold Ieee.Format.nearest
  rw [if_neg hm]
  rw [← hl] at h1 h2 hd b1 b2 ⊢
  obtain ⟨kept, hk, e, k1, k2⟩ : ∃ kept, Ieee.Toward.even.cut neg (mag <<< (52 - l)) (l - 52) = kept ∧ kept * 2 ^ (l - 52) = mag * 2 ^ (52 - l) ∧ 4503599627370496 ≤ kept ∧ kept < 9007199254740992 := by
    rcases Nat.le_total l 52 with h | h
    · have z : l - 52 = 0 := by omega
      refine ⟨_, rfl, ?_, ?_⟩
      · rw [z]; simp [Ieee.Toward.cut, Nat.shiftLeft_eq, Nat.mod_one]
      · rw [z]
        have e : Ieee.Toward.even.cut neg (mag <<< (52 - l)) 0 = mag * 2 ^ (52 - l) := by simp [Ieee.Toward.cut, Nat.shiftLeft_eq, Nat.mod_one]
        rw [e]
        constructor
        · have := Nat.mul_le_mul_right (2 ^ (52 - l)) b1
          rw [← Nat.pow_add, show l + (52 - l) = 52 by omega] at this
          exact this
        · have := Nat.mul_lt_mul_of_pos_right b2 (Nat.two_pow_pos (52 - l))
          rw [← Nat.pow_add, show l + 1 + (52 - l) = 53 by omega] at this
          exact this
    · have z : 52 - l = 0 := by omega
      obtain ⟨c, hc⟩ := hd
      have p0 := Nat.two_pow_pos (l - 52)
      have hg : 1 <<< min (l - 52) (mag.log2 + 2) = 2 ^ (l - 52) := by rw [Nat.shiftLeft_eq, Nat.one_mul, Nat.min_eq_left (by omega)]
      have e : Ieee.Toward.even.cut neg (mag <<< (52 - l)) (l - 52) = c := by
        rw [z, Nat.shiftLeft_zero]
        unfold Ieee.Toward.cut
        simp only [hg]
        rw [hc, Nat.mul_mod_right, Nat.mul_div_cancel_left _ p0]
        have q : (2 ^ (l - 52) == 2 * 0) = false := by rw [beq_eq_false_iff_ne]; omega
        simp [q]
      refine ⟨c, e, ?_, ?_, ?_⟩
      · rw [z, Nat.pow_zero, Nat.mul_one, Nat.mul_comm, hc]
      · rw [hc, show l = (l - 52) + 52 by omega, Nat.pow_add, Nat.add_sub_cancel] at b1
        exact Nat.le_of_mul_le_mul_left b1 p0
      · rw [hc, show l + 1 = (l - 52) + 53 by omega, Nat.pow_add] at b2
        exact Nat.lt_of_mul_lt_mul_left b2
  refine ⟨kept, ?_, e⟩
  simp only [c4, c5]
  rw [show max (place + (l : Int) - ((52 : Nat) : Int)) (-1074) = place + l - 52 by omega]
  rw [show (place - (place + (l : Int) - 52)).toNat = 52 - l by omega, show (place + (l : Int) - 52 - place).toNat = l - 52 by omega, hk, c2, c3]
  obtain ⟨r, hr⟩ : ∃ r : Nat, (place + (l : Int) - 52 - -1074).toNat = r := ⟨_, rfl⟩
  rw [hr, Nat.min_eq_left (by omega)]
  unfold Ieee.Format.read Ieee.Format.word
  rw [c1, c2, c3, c4]
  have d1 : (if neg then 9223372036854775808 + (r * 4503599627370496 + kept) else r * 4503599627370496 + kept) % 9223372036854775808 = r * 4503599627370496 + kept := by cases neg <;> simp only [if_true, if_false, Bool.false_eq_true] <;> omega
  have d2 : ((if neg then 9223372036854775808 + (r * 4503599627370496 + kept) else r * 4503599627370496 + kept) / 9223372036854775808 % 2 == 1) = neg := by
    cases neg
    · simp only [if_false, Bool.false_eq_true, beq_eq_false_iff_ne]; omega
    · simp only [if_true, beq_iff_eq]; omega
  simp only [d1, d2]
  rw [if_neg (by omega), if_pos (by omega)]
  rw [show 4503599627370496 + (r * 4503599627370496 + kept) % 4503599627370496 = kept by omega, show (-1074 + (((r * 4503599627370496 + kept) / 4503599627370496 - 1 : Nat) : Int)) = place + l - 52 by omega]
theorem vl_natAbs {s : Bool} {m : Nat} {i n : Int} (h : Vl s m i n) (k : Nat) (hk : 0 ≤ i + k) : m * 2 ^ (i + k).toNat = n.natAbs * 2 ^ k := by
  have := congrArg Int.natAbs (h k hk)
  rw [Int.natAbs_mul, Int.natAbs_mul, Int.natAbs_pow, Int.natAbs_pow, sg_abs] at this
  exact this
theorem read_zero (neg : Bool) : Ieee.double.read (Ieee.double.word neg 0) = .number neg 0 (-1074) := by cases neg <;> decide +kernel
theorem nearest_vi (neg : Bool) (mag : Nat) (place n : Int) (h : Vl neg mag place n) (hn : n.natAbs < 9007199254740992) : VI (Ieee.double.nearest neg mag place) n := by
  by_cases hm : mag = 0
  · subst hm
    have h0 := vl_natAbs h (-place).toNat (by omega)
    rw [Nat.zero_mul] at h0
    have hz : n = 0 := by
      rcases Nat.mul_eq_zero.1 h0.symm with h1 | h1
      · omega
      · exact absurd h1 (Nat.ne_of_gt (Nat.two_pow_pos _))
    subst hz
    refine ⟨neg, 0, -1074, ?_, Vl.of_one 1074 (by omega) (by rw [show sg neg 0 = 0 by cases neg <;> rfl, Int.zero_mul, Int.zero_mul])⟩
    unfold Ieee.Format.nearest
    rw [if_pos rfl]
    exact read_zero neg
  · have b1 := Nat.log2_self_le hm
    have b2 := Nat.lt_log2_self (n := mag)
    have hN : n.natAbs ≠ 0 := by
      intro hz
      have h0 := vl_natAbs h (-place).toNat (by omega)
      rw [hz, Nat.zero_mul] at h0
      rcases Nat.mul_eq_zero.1 h0 with h1 | h1
      · exact hm h1
      · exact Nat.ne_of_gt (Nat.two_pow_pos _) h1
    obtain ⟨g1, g2, g3⟩ : 0 ≤ place + mag.log2 ∧ place + mag.log2 ≤ 52 ∧ 2 ^ (mag.log2 - 52) ∣ mag := by
      rcases Int.le_total 0 place with hp | hp
      · obtain ⟨P, rfl⟩ := Int.eq_ofNat_of_zero_le hp
        have h0 := vl_natAbs h 0 (by omega)
        rw [Nat.pow_zero, Nat.mul_one, show ((P : Int) + ((0 : Nat) : Int)).toNat = P by omega] at h0
        have h3 : 2 ^ (mag.log2 + P) < 2 ^ 53 := by
          rw [Nat.pow_add]
          exact Nat.lt_of_le_of_lt (Nat.mul_le_mul_right _ b1) (by rw [h0]; exact hn)
        have h4 := (Nat.pow_lt_pow_iff_right (by decide : 1 < 2)).1 h3
        refine ⟨by omega, by omega, ?_⟩
        rw [show mag.log2 - 52 = 0 by omega]
        exact Nat.one_dvd _
      · obtain ⟨k, rfl⟩ : ∃ k : Nat, place = -(k : Int) := ⟨(-place).toNat, by omega⟩
        have h0 := vl_natAbs h k (by omega)
        rw [show (-(k : Int) + (k : Int)).toNat = 0 by omega, Nat.pow_zero, Nat.mul_one] at h0
        have h3 : 2 ^ mag.log2 < 2 ^ (53 + k) := by
          rw [Nat.pow_add]
          exact Nat.lt_of_le_of_lt b1 (by rw [h0]; exact Nat.mul_lt_mul_of_pos_right hn (Nat.two_pow_pos k))
        have h4 := (Nat.pow_lt_pow_iff_right (by decide : 1 < 2)).1 h3
        have h5 : 2 ^ k < 2 ^ (mag.log2 + 1) := by
          refine Nat.lt_of_le_of_lt ?_ b2
          rw [h0]
          exact Nat.le_mul_of_pos_left _ (Nat.pos_of_ne_zero hN)
        have h6 := (Nat.pow_lt_pow_iff_right (by decide : 1 < 2)).1 h5
        refine ⟨by omega, by omega, ?_⟩
        rw [h0]
        refine Nat.dvd_trans ?_ (Nat.dvd_mul_left _ _)
        rw [← h0]
        exact Nat.pow_dvd_pow 2 (by omega)
    obtain ⟨kept, e1, e2⟩ := nearest_norm neg mag place hm g1 g2 g3
    refine ⟨neg, kept, _, e1, ?_⟩
    generalize mag.log2 = l at *
    refine Vl.of_one (52 + (-place).toNat + l) (by omega) ?_
    have hv := h (52 + (-place).toNat + l) (by omega)
    rw [← hv]
    have e3 : kept * 2 ^ (place + l - 52 + ((52 + (-place).toNat + l : Nat) : Int)).toNat = mag * 2 ^ (place + ((52 + (-place).toNat + l : Nat) : Int)).toNat := by
      rcases Nat.le_total l 52 with hl | hl
      · rw [show l - 52 = 0 by omega, Nat.pow_zero, Nat.mul_one] at e2
        rw [e2, Nat.mul_assoc, ← Nat.pow_add]
        congr 2; omega
      · rw [show 52 - l = 0 by omega, Nat.pow_zero, Nat.mul_one] at e2
        rw [← e2, Nat.mul_assoc, ← Nat.pow_add]
        congr 2; omega
    have e4 := congrArg (fun z : Nat => (z : Int)) e3
    simp only [Int.natCast_mul, Int.natCast_pow] at e4
    have e5 : ((2 : Nat) : Int) = 2 := rfl
    rw [e5] at e4
    unfold sg
    cases neg
    · exact e4
    · simp only [if_true, Int.neg_mul, e4]
theorem VI.mul {p q : Nat} {n m : Int} (hp : VI p n) (hq : VI q m) (h : (n * m).natAbs < 9007199254740992) : ∃ r, floatBits .mul .f64 p q = some r ∧ VI r (n * m) := by
  obtain ⟨s, a, i, e1, h1⟩ := hp
  obtain ⟨t, b, j, e2, h2⟩ := hq
  refine ⟨Ieee.double.nearest (s ^^ t) (a * b) (i + j), ?_, nearest_vi _ _ _ _ ?_ h⟩
  · show ((Ieee.double.read p).product (Ieee.double.read q)).map Ieee.double.write = _
    rw [e1, e2]; rfl
  · have g1 := h1 (-i).toNat (by omega)
    have g2 := h2 (-j).toNat (by omega)
    refine Vl.of_one ((-i).toNat + (-j).toNat) (by omega) ?_
    rw [show (i + j + (((-i).toNat + (-j).toNat : Nat) : Int)).toNat = (i + ((-i).toNat : Int)).toNat + (j + ((-j).toNat : Int)).toNat by omega, Int.pow_add, Int.pow_add, sg_mul]
    rw [show sg s a * sg t b * (2 ^ (i + ((-i).toNat : Int)).toNat * 2 ^ (j + ((-j).toNat : Int)).toNat) = (sg s a * 2 ^ (i + ((-i).toNat : Int)).toNat) * (sg t b * 2 ^ (j + ((-j).toNat : Int)).toNat) by ac_rfl, g1, g2]
    ac_rfl
theorem vl_sum {s t : Bool} {a b : Nat} {i j n m : Int} (h1 : Vl s a i n) (h2 : Vl t b j m) (c : Bool) : Vl (if sg s a * 2 ^ (i - min i j).toNat + sg t b * 2 ^ (j - min i j).toNat = 0 then c else decide (sg s a * 2 ^ (i - min i j).toNat + sg t b * 2 ^ (j - min i j).toNat < 0)) (sg s a * 2 ^ (i - min i j).toNat + sg t b * 2 ^ (j - min i j).toNat).natAbs (min i j) (n + m) := by
  have g1 := h1.at (min i j) (by omega)
  have g2 := h2.at (min i j) (by omega)
  refine Vl.of_one (-min i j).toNat (by omega) ?_
  rw [sg_of, Int.add_mul, Int.add_mul, g1, g2]
theorem VI.add {p q : Nat} {n m : Int} (hp : VI p n) (hq : VI q m) (h : (n + m).natAbs < 9007199254740992) : ∃ r, floatBits .add .f64 p q = some r ∧ VI r (n + m) := by
  obtain ⟨s, a, i, e1, h1⟩ := hp
  obtain ⟨t, b, j, e2, h2⟩ := hq
  refine ⟨_, ?_, nearest_vi _ _ _ _ (vl_sum h1 h2 (s && t)) h⟩
  show ((Ieee.double.read p).sum (Ieee.double.read q)).map Ieee.double.write = _
  rw [e1, e2]
  simp only [Ieee.Datum.sum, signed_eq]
  rfl
theorem Vl.opp {s : Bool} {m : Nat} {i n : Int} (h : Vl s m i n) : Vl (!s) m i (-n) := by
  intro k hk
  have := h k hk
  rw [Int.neg_mul, ← this, ← Int.neg_mul]
  congr 1
  unfold sg
  cases s <;> simp
theorem VI.sub {p q : Nat} {n m : Int} (hp : VI p n) (hq : VI q m) (h : (n - m).natAbs < 9007199254740992) : ∃ r, floatBits .sub .f64 p q = some r ∧ VI r (n - m) := by
  obtain ⟨s, a, i, e1, h1⟩ := hp
  obtain ⟨t, b, j, e2, h2⟩ := hq
  refine ⟨_, ?_, nearest_vi _ _ _ (n - m) (by have := vl_sum h1 h2.opp (s && !t); rw [← Int.sub_eq_add_neg] at this; exact this) h⟩
  show ((Ieee.double.read p).sum (Ieee.double.read q).opposite).map Ieee.double.write = _
  rw [e1, e2]
  simp only [Ieee.Datum.opposite, Ieee.Datum.sum, signed_eq]
  rfl
theorem vi_int (n : Int) (h : n.natAbs < 9007199254740992) : VI (Ieee.double.nearest (n < 0) n.natAbs 0) n := by
  refine nearest_vi _ _ _ n (Vl.of_one 0 (by omega) ?_) h
  have := sg_of n false
  by_cases hz : n = 0
  · subst hz; rfl
  · rw [if_neg hz] at this
    rw [this]; simp
end Go.Proofs.YtlfkachphpneiaaDoor
