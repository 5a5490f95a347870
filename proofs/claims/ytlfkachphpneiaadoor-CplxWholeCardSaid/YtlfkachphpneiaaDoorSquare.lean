/- Squares and their sums: words of one size have one square, and a sum of two squares is a number whichever stands first. -/
import Derived.Test.YtlfkachphpneiaaDoorExact
import Derived.Test.YtlfkachphpneiaaDoorCplxF
namespace Go.Proofs.YtlfkachphpneiaaDoor
open Ieee Go.RowKit Go.Proofs.YtlfkachphpneiaaDoorW.PrintWords

theorem read_canon {p : Nat} {s : Bool} {m : Nat} {i : Int} (h : Ieee.double.read p = .number s m i) : (i = -1074 ∧ m < 4503599627370496) ∨ (4503599627370496 ≤ m ∧ m < 9007199254740992 ∧ -1074 ≤ i) := by
  have c1 : Ieee.double.signWeight = 9223372036854775808 := by decide
  have c2 : Ieee.double.binade = 4503599627370496 := by decide
  have c3 : Ieee.double.infRung = 9218868437227405312 := by decide
  have c4 : Ieee.double.leastPlace = -1074 := by decide
  unfold Ieee.Format.read at h
  simp only [c1, c2, c3, c4] at h
  split at h
  · simp only [Ieee.Datum.number.injEq] at h; omega
  · split at h
    · simp only [Ieee.Datum.number.injEq] at h; omega
    · split at h <;> cases h
theorem canon_eq {a b : Nat} {i j : Int} (h1 : (i = -1074 ∧ a < 4503599627370496) ∨ (4503599627370496 ≤ a ∧ a < 9007199254740992 ∧ -1074 ≤ i)) (h2 : (j = -1074 ∧ b < 4503599627370496) ∨ (4503599627370496 ≤ b ∧ b < 9007199254740992 ∧ -1074 ≤ j))
    (h : a * 2 ^ (i + 1074).toNat = b * 2 ^ (j + 1074).toNat) (hij : i ≤ j) : a = b ∧ i = j := by
  obtain ⟨d, hd⟩ : ∃ d : Nat, j = i + d := ⟨(j - i).toNat, by omega⟩
  have e : (j + 1074).toNat = (i + 1074).toNat + d := by omega
  rw [e, Nat.pow_add, ← Nat.mul_assoc, Nat.mul_comm (b * 2 ^ (i + 1074).toNat), ← Nat.mul_assoc] at h
  have h' := Nat.eq_of_mul_eq_mul_right (Nat.two_pow_pos _) h
  cases d with
  | zero => simp at h'; omega
  | succ d =>
    exfalso
    rw [Nat.pow_succ] at h'
    have : 0 < 2 ^ d := Nat.two_pow_pos d
    have hb : 4503599627370496 ≤ b := by omega
    have : 2 * b ≤ 2 ^ d * 2 * b := Nat.mul_le_mul_right b (by omega)
    omega
theorem same_size {p q : Nat} {n m : Int} (hp : VI p n) (hq : VI q m) (h : n.natAbs = m.natAbs) : ∃ s t a i, Ieee.double.read p = .number s a i ∧ Ieee.double.read q = .number t a i := by
  obtain ⟨s, a, i, e1, h1⟩ := hp
  obtain ⟨t, b, j, e2, h2⟩ := hq
  have g1 := read_canon e1
  have g2 := read_canon e2
  have k1 := vl_natAbs h1 1074 (by omega)
  have k2 := vl_natAbs h2 1074 (by omega)
  have k : a * 2 ^ (i + 1074).toNat = b * 2 ^ (j + 1074).toNat := by
    refine Eq.trans k1 (Eq.trans ?_ k2.symm)
    rw [h]
  rcases Int.le_total i j with hij | hij
  · obtain ⟨rfl, rfl⟩ := canon_eq g1 g2 k hij; exact ⟨s, t, a, i, e1, e2⟩
  · obtain ⟨rfl, rfl⟩ := canon_eq g2 g1 k.symm hij; exact ⟨s, t, _, _, e1, e2⟩
/-- A word that is no NaN and has no sign. -/
def Pos (p : Nat) : Prop := Ieee.double.read p = .infinity false ∨ ∃ m i, Ieee.double.read p = .number false m i
theorem pos_rung {r : Nat} (h : r ≤ 9218868437227405312) : Pos r := by
  have c1 : Ieee.double.signWeight = 9223372036854775808 := by decide
  have c2 : Ieee.double.binade = 4503599627370496 := by decide
  have c3 : Ieee.double.infRung = 9218868437227405312 := by decide
  have e1 : r % 9223372036854775808 = r := by omega
  have e2 : (r / 9223372036854775808 % 2 == 1) = false := by rw [beq_eq_false_iff_ne]; omega
  unfold Pos Ieee.Format.read
  simp only [c1, c2, c3, e1, e2]
  split
  · exact .inr ⟨_, _, rfl⟩
  · split
    · exact .inr ⟨_, _, rfl⟩
    · rw [if_pos (by omega)]; exact .inl rfl
theorem pos_nearest (m : Nat) (i : Int) : Pos (Ieee.double.nearest false m i) := by
  have c3 : Ieee.double.infRung = 9218868437227405312 := by decide
  unfold Ieee.Format.nearest Ieee.Format.word
  split
  · exact pos_rung (by simp)
  · simp only [Bool.false_eq_true, if_false, c3]
    exact pos_rung (Nat.min_le_right _ _)
theorem pos_nan {p : Nat} (h : Pos p) : nan p = false := by
  unfold nan
  rcases h with h | ⟨m, i, h⟩ <;> rw [h] <;> rfl
theorem sq_pos {p : Nat} {s : Bool} {m : Nat} {i : Int} (h : Ieee.double.read p = .number s m i) : floatBits .mul .f64 p p = some (Ieee.double.nearest false (m * m) (i + i)) := by
  show ((Ieee.double.read p).product (Ieee.double.read p)).map Ieee.double.write = _
  rw [h]
  simp only [Ieee.Datum.product, Bool.xor_self]
  rfl
theorem add_pos {p q : Nat} (hp : Pos p) (hq : Pos q) : ∃ r, floatBits .add .f64 p q = some r ∧ Pos r := by
  have c : ∃ r, ((Ieee.double.read p).sum (Ieee.double.read q)).map Ieee.double.write = some r ∧ Pos r := by
    have hi : Pos (Ieee.double.write (.infinity false)) := by
      show Pos (Ieee.double.word false Ieee.double.infRung)
      have c3 : Ieee.double.infRung = 9218868437227405312 := by decide
      rw [c3]
      exact pos_rung (by simp [Ieee.Format.word])
    rcases hp with h1 | ⟨m, i, h1⟩ <;> rcases hq with h2 | ⟨n, j, h2⟩ <;> rw [h1, h2]
    · exact ⟨_, rfl, hi⟩
    · exact ⟨_, rfl, hi⟩
    · exact ⟨_, rfl, hi⟩
    · refine ⟨_, rfl, ?_⟩
      have hs : (if Ieee.signed false m (i - min i j).toNat + Ieee.signed false n (j - min i j).toNat = 0 then false && false else decide (Ieee.signed false m (i - min i j).toNat + Ieee.signed false n (j - min i j).toNat < 0)) = false := by
        split
        · rfl
        · have p1 : 0 ≤ Ieee.signed false m (i - min i j).toNat := Int.natCast_nonneg _
          have p2 : 0 ≤ Ieee.signed false n (j - min i j).toNat := Int.natCast_nonneg _
          exact decide_eq_false (by omega)
      show Pos (Ieee.double.nearest (if _ then _ else _) _ _)
      rw [hs]
      exact pos_nearest _ _
  exact c
theorem add_comm_bits (p q : Nat) : floatBits .add .f64 p q = floatBits .add .f64 q p := by
  show ((Ieee.double.read p).sum (Ieee.double.read q)).map Ieee.double.write = ((Ieee.double.read q).sum (Ieee.double.read p)).map Ieee.double.write
  congr 1
  cases Ieee.double.read p with
  | nan s t => cases Ieee.double.read q <;> rfl
  | infinity s =>
    cases Ieee.double.read q with
    | nan s t => rfl
    | infinity t => cases s <;> cases t <;> rfl
    | number t n j => rfl
  | number s m i =>
    cases Ieee.double.read q with
    | nan s t => rfl
    | infinity t => rfl
    | number t n j =>
      simp only [Ieee.Datum.sum]
      rw [Int.min_comm i j, Int.add_comm (Ieee.signed s m _), Bool.and_comm]
/-- A number turned by a quarter has the norm that it had. -/
theorem norm_turn {a b c d n m : Nat} {x y : Int} (ha : VI a x) (hb : VI b y) (hc : VI c (-y)) (hd : VI d x) (h1 : NormR a b n) (h2 : NormR c d m) : (FloatKind.f64.format.order m n == some .eq) = true := by
  obtain ⟨i, j, g1, g2, g3⟩ := h1
  obtain ⟨i', j', k1, k2, k3⟩ := h2
  obtain ⟨s, t, z, u, r1, r2⟩ := same_size ha hd rfl
  obtain ⟨s', t', z', u', r3, r4⟩ := same_size hb hc (by omega)
  rw [sq_pos r1] at g1
  rw [sq_pos r2] at k2
  rw [sq_pos r3] at g2
  rw [sq_pos r4] at k1
  have e (r q : Nat) (h : Gives (some r) q) : q = r := by
    rcases h.2 with h | ⟨h, _⟩
    · exact (Option.some.inj h).symm
    · cases h
  have e1 := e _ _ g1
  have e2 := e _ _ g2
  have e3 := e _ _ k1
  have e4 := e _ _ k2
  subst e1 e2 e3 e4
  rw [add_comm_bits] at k3
  obtain ⟨r, hr, hp⟩ := add_pos (pos_nearest (z * z) (u + u)) (pos_nearest (z' * z') (u' + u'))
  rw [hr] at g3 k3
  have e5 := e _ _ g3
  have e6 := e _ _ k3
  subst e5 e6
  rw [order_self, pos_nan hp]; rfl
theorem gives_vi {r : Option Nat} {p : Nat} {n : Int} (h : Gives r p) (hr : ∃ q, r = some q ∧ VI q n) : VI p n := by
  obtain ⟨q, rfl, hq⟩ := hr
  rcases h.2 with h | ⟨h, _⟩
  · obtain rfl := Option.some.inj h; exact hq
  · cases h
theorem vi_add {a b c d p q : Nat} {x y z u : Int} (ha : VI a x) (hb : VI b y) (hc : VI c z) (hd : VI d u) (h : AddR a b c d p q) (h1 : (x + z).natAbs < 9007199254740992) (h2 : (y + u).natAbs < 9007199254740992) : VI p (x + z) ∧ VI q (y + u) :=
  ⟨gives_vi h.1 (ha.add hc h1), gives_vi h.2 (hb.add hd h2)⟩
theorem vi_sub {a b c d p q : Nat} {x y z u : Int} (ha : VI a x) (hb : VI b y) (hc : VI c z) (hd : VI d u) (h : SubR a b c d p q) (h1 : (x - z).natAbs < 9007199254740992) (h2 : (y - u).natAbs < 9007199254740992) : VI p (x - z) ∧ VI q (y - u) :=
  ⟨gives_vi h.1 (ha.sub hc h1), gives_vi h.2 (hb.sub hd h2)⟩
theorem vi_mul {a b c d p q : Nat} {x y z u : Int} (ha : VI a x) (hb : VI b y) (hc : VI c z) (hd : VI d u) (h : MulR a b c d p q) (h1 : (x * z).natAbs < 1073741824000000) (h2 : (y * u).natAbs < 1073741824000000) (h3 : (x * u).natAbs < 1073741824000000) (h4 : (y * z).natAbs < 1073741824000000) : VI p (x * z - y * u) ∧ VI q (x * u + y * z) := by
  obtain ⟨i, j, k, l, g1, g2, g3, g4, g5, g6⟩ := h
  have v1 := gives_vi g1 (ha.mul hc (by omega))
  have v2 := gives_vi g2 (hb.mul hd (by omega))
  have v3 := gives_vi g3 (ha.mul hd (by omega))
  have v4 := gives_vi g4 (hb.mul hc (by omega))
  exact ⟨gives_vi g5 (v1.sub v2 (by omega)), gives_vi g6 (v3.add v4 (by omega))⟩
theorem vi_norm {a b n : Nat} {x y : Int} (ha : VI a x) (hb : VI b y) (h : NormR a b n) (h1 : (x * x).natAbs < 1073741824000000) (h2 : (y * y).natAbs < 1073741824000000) : VI n (x * x + y * y) := by
  obtain ⟨i, j, g1, g2, g3⟩ := h
  exact gives_vi g3 ((gives_vi g1 (ha.mul ha (by omega))).add (gives_vi g2 (hb.mul hb (by omega))) (by omega))
theorem read_flip {p : Nat} {s : Bool} {m : Nat} {i : Int} (h : Ieee.double.read p = .number s m i) : Ieee.double.read (p ^^^ 9223372036854775808) = .number (!s) m i := by
  have c1 : Ieee.double.signWeight = 9223372036854775808 := by decide
  have e1 : (p ^^^ 9223372036854775808) % 9223372036854775808 = p % 9223372036854775808 := by
    have := Nat.xor_mod_two_pow (a := p) (b := 9223372036854775808) (n := 63)
    simpa using this
  have e2 : (p ^^^ 9223372036854775808) / 9223372036854775808 % 2 = (p / 9223372036854775808 + 1) % 2 := by
    have := Nat.xor_div_two_pow (a := p) (b := 9223372036854775808) (n := 63)
    rw [show (2 : Nat) ^ 63 = 9223372036854775808 from rfl] at this
    have h2 := Nat.xor_mod_two_pow (a := p / 9223372036854775808) (b := 1) (n := 1)
    rw [this, Nat.div_self (by decide), show (2 : Nat) = 2 ^ 1 from rfl, h2, show (2 : Nat) ^ 1 = 2 from rfl]
    rcases Nat.mod_two_eq_zero_or_one (p / 9223372036854775808) with h | h
    · rw [h, show (p / 9223372036854775808 + 1) % 2 = 1 by omega]; rfl
    · rw [h, show (p / 9223372036854775808 + 1) % 2 = 0 by omega]; rfl
  have e3 : ((p / 9223372036854775808 + 1) % 2 == 1) = !(p / 9223372036854775808 % 2 == 1) := by
    rcases Nat.mod_two_eq_zero_or_one (p / 9223372036854775808) with h | h
    · rw [show (p / 9223372036854775808 + 1) % 2 = 1 by omega, h]; rfl
    · rw [show (p / 9223372036854775808 + 1) % 2 = 0 by omega, h]; rfl
  unfold Ieee.Format.read at h ⊢
  simp only [c1, e1, e2, e3] at h ⊢
  split at h
  · rename_i g; rw [if_pos g]; simp only [Ieee.Datum.number.injEq] at h ⊢; exact ⟨by rw [h.1], h.2⟩
  · rename_i g; rw [if_neg g]
    split at h
    · rename_i g; rw [if_pos g]; simp only [Ieee.Datum.number.injEq] at h ⊢; exact ⟨by rw [h.1], h.2⟩
    · split at h <;> cases h
theorem VI.flip {p : Nat} {n : Int} (h : VI p n) : VI (p ^^^ 9223372036854775808) (-n) := by
  obtain ⟨s, m, i, e, hv⟩ := h
  exact ⟨_, _, _, read_flip e, hv.opp⟩
theorem VI.negf {p : Nat} {n : Int} (h : VI p n) : VI (Op.negFloat .f64 p) (-n) := h.flip
theorem unary_negf (k : FloatKind) (b : Nat) : Op.unary .neg (.float k b) = pure (.float k (Op.negFloat k b)) := rfl
theorem vi_of_int (n : Int) (h : n.natAbs < 9007199254740992) : VI (floatOfInt .f64 n) n := vi_int n h
theorem nearest_lt (neg : Bool) (m : Nat) (i : Int) : Ieee.double.nearest neg m i < 18446744073709551616 := by
  have c1 : Ieee.double.signWeight = 9223372036854775808 := by decide
  have c3 : Ieee.double.infRung = 9218868437227405312 := by decide
  have hw : ∀ r, r ≤ 9218868437227405312 → Ieee.double.word neg r < 18446744073709551616 := by
    intro r hr
    unfold Ieee.Format.word
    rw [c1]
    cases neg
    · simp only [Bool.false_eq_true, if_false]; omega
    · simp only [if_true]; omega
  unfold Ieee.Format.nearest
  split
  · exact hw 0 (by omega)
  · simp only [c3]; exact hw _ (Nat.min_le_right _ _)
theorem floatOfInt_lt (n : Int) : floatOfInt .f64 n < 18446744073709551616 := nearest_lt _ _ _
/-- The two parts of a complex number stand for whole numbers. -/
def VC (a b : Nat) (x y : Int) : Prop := VI a x ∧ VI b y
theorem vc_eq {a b c d : Nat} {x y z u : Int} (h1 : Hid (VC a b x y)) (h2 : Hid (VC c d z u)) (e1 : x = z) (e2 : y = u) : FloatKind.f64.format.order a c = some .eq ∧ FloatKind.f64.format.order b d = some .eq := by
  constructor
  · have := h1.out.1.eq h2.out.1
    rw [decide_eq_true e1] at this; simpa using this
  · have := h1.out.2.eq h2.out.2
    rw [decide_eq_true e2] at this; simpa using this
/-- A call hands back a complex number of whole parts; it has drawn, no more. -/
def SomeW (x y : Int) (w : World) (e : Ending) (w' : World) : Prop := ∃ p q n, Hid (VC p q x y) ∧ e = .returned (.complex .f64 p q) ∧ w' = w.drewN n
theorem wadd {a b c d : Nat} {x y z u : Int} (h1 : Hid (VC a b x y)) (h2 : Hid (VC c d z u)) (b1 : (x + z).natAbs < 9007199254740992) (b2 : (y + u).natAbs < 9007199254740992) (w : World) :
    Calls Tryd.prog 22 #[.complex .f64 a b, .complex .f64 c d] w (SomeW (x + z) (y + u) w) :=
  (cadd_any a b c d w).mono fun _ _ ⟨p, q, n, hR, he, hw⟩ => ⟨p, q, n, Lib.hid (vi_add h1.out.1 h1.out.2 h2.out.1 h2.out.2 hR b1 b2), he, hw⟩
theorem wsub {a b c d : Nat} {x y z u : Int} (h1 : Hid (VC a b x y)) (h2 : Hid (VC c d z u)) (b1 : (x - z).natAbs < 9007199254740992) (b2 : (y - u).natAbs < 9007199254740992) (w : World) :
    Calls Tryd.prog 16 #[.complex .f64 a b, .complex .f64 c d] w (SomeW (x - z) (y - u) w) :=
  (csub_any a b c d w).mono fun _ _ ⟨p, q, n, hR, he, hw⟩ => ⟨p, q, n, Lib.hid (vi_sub h1.out.1 h1.out.2 h2.out.1 h2.out.2 hR b1 b2), he, hw⟩
theorem small_mul {x y : Int} {m n : Nat} (h1 : x.natAbs ≤ m) (h2 : y.natAbs ≤ n) : (x * y).natAbs ≤ m * n := by rw [Int.natAbs_mul]; exact Nat.mul_le_mul h1 h2
theorem wmul {a b c d : Nat} {x y z u : Int} (h1 : Hid (VC a b x y)) (h2 : Hid (VC c d z u)) (m n : Nat) (hmn : m * n < 1073741824000000) (b1 : x.natAbs ≤ m) (b2 : y.natAbs ≤ m) (b3 : z.natAbs ≤ n) (b4 : u.natAbs ≤ n) (w : World) :
    Calls Tryd.prog 15 #[.complex .f64 a b, .complex .f64 c d] w (SomeW (x * z - y * u) (x * u + y * z) w) :=
  (cmul_any a b c d w).mono fun _ _ ⟨p, q, k, hR, he, hw⟩ => ⟨p, q, k, Lib.hid (vi_mul h1.out.1 h1.out.2 h2.out.1 h2.out.2 hR (Nat.lt_of_le_of_lt (small_mul b1 b3) hmn) (Nat.lt_of_le_of_lt (small_mul b2 b4) hmn) (Nat.lt_of_le_of_lt (small_mul b1 b4) hmn) (Nat.lt_of_le_of_lt (small_mul b2 b3) hmn)), he, hw⟩
theorem SomeW.at {x y x' y' : Int} {w : World} {f : FuncId} {args : Array Value} (h : Calls Tryd.prog f args w (SomeW x y w)) (e1 : x = x') (e2 : y = y') : Calls Tryd.prog f args w (SomeW x' y' w) := by subst e1 e2; exact h
end Go.Proofs.YtlfkachphpneiaaDoor
