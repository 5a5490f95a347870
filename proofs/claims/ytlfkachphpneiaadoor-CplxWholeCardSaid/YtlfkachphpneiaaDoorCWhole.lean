/- CplxWhole: with small whole parts all is exact. -/
import Derived.Test.YtlfkachphpneiaaDoorCDoor
import Derived.Test.YtlfkachphpneiaaDoorSquare
import Derived.OpenShut
import Derived.Laws.BitsAllLaws
namespace Go.Proofs.YtlfkachphpneiaaDoor
open Go.RowKit Go.Proofs.YtlfkachphpneiaaDoorW.PrintWords

theorem vi_zero : VI 0 0 := vi_int 0 (by decide)
theorem wconj {a b : Nat} {x y : Int} (h : Hid (VC a b x y)) (hb : b < 18446744073709551616) (w : World) :
    Calls Tryd.prog 14 #[.complex .f64 a b] w (SomeW x (-y) w) := by
  refine (cconj_any a b w).mono fun e w' ⟨he, hw⟩ => ⟨a, turn b, 0, Lib.hid ⟨h.out.1, ?_⟩, he, hw.symm⟩
  have e : turn b = b ^^^ 9223372036854775808 := by
    unfold turn
    rw [show (9223372036854775808 : Int) = ((9223372036854775808 : Nat) : Int) from rfl, u64_xor_nat b 9223372036854775808 hb (by decide)]
    rfl
  rw [e]
  exact h.out.2.flip
theorem wnorm {a b : Nat} {x y : Int} (h : Hid (VC a b x y)) (m : Nat) (hm : m * m < 1073741824000000) (b1 : x.natAbs ≤ m) (b2 : y.natAbs ≤ m) (w : World) :
    Calls Tryd.prog 17 #[.complex .f64 a b] w fun e w' => ∃ n k, Hid (VI n (x * x + y * y)) ∧ e = .returned (.float .f64 n) ∧ w' = w.drewN k :=
  (cnorm_any a b w).mono fun _ _ ⟨p, n, hR, he, hw⟩ => ⟨p, n, Lib.hid (vi_norm h.out.1 h.out.2 hR (Nat.lt_of_le_of_lt (small_mul b1 b1) hm) (Nat.lt_of_le_of_lt (small_mul b2 b2) hm)), he, hw⟩
theorem vi_eq' {p q : Nat} {n m : Int} (h1 : Hid (VI p n)) (h2 : Hid (VI q m)) (e : n = m) : FloatKind.f64.format.order p q = some .eq := by
  have := h1.out.eq h2.out
  rw [decide_eq_true e] at this; simpa using this
theorem sq_wrap {a b : Int} (ha : a.natAbs ≤ 32768) (hb : b.natAbs ≤ 32768) : IntKind.i64.wrap (a * a + b * b) = a * a + b * b ∧ IntKind.i64.wrap (a * a) = a * a := by
  have h1 := small_mul ha ha
  have h2 := small_mul hb hb
  have e1 : ∀ z : Int, z.natAbs ≤ 2147483648 → IntKind.i64.wrap z = z := by
    intro z hz
    simp [IntKind.wrap, IntKind.bits, IntKind.signed]; omega
  exact ⟨e1 _ (by omega), e1 _ (by omega)⟩
set_option maxHeartbeats 8000000 in
theorem cwhole_walk (a b c d e f : Int) (w0 : (Lit.int .i16 a).wf = true) (w1 : (Lit.int .i16 b).wf = true) (w2 : (Lit.int .i16 c).wf = true) (w3 : (Lit.int .i16 d).wf = true) (w4 : (Lit.int .i16 e).wf = true) (w5 : (Lit.int .i16 f).wf = true) (w : World) (hl : LaidC w) :
    Calls Tryd.prog 7 #[.int .i16 a, .int .i16 b, .int .i16 c, .int .i16 d, .int .i16 e, .int .i16 f] w fun e w' => e = .returned (.bool true) ∧ Below w.heap.size w w' := by
  obtain ⟨a1, a2⟩ := bounds_i16 w0
  obtain ⟨b1, b2⟩ := bounds_i16 w1
  obtain ⟨c1, c2⟩ := bounds_i16 w2
  obtain ⟨d1, d2⟩ := bounds_i16 w3
  obtain ⟨e1, e2⟩ := bounds_i16 w4
  obtain ⟨f1, f2⟩ := bounds_i16 w5
  have A : a.natAbs ≤ 32768 := by omega
  have B : b.natAbs ≤ 32768 := by omega
  have C : c.natAbs ≤ 32768 := by omega
  have D : d.natAbs ≤ 32768 := by omega
  have E : e.natAbs ≤ 32768 := by omega
  have F : f.natAbs ≤ 32768 := by omega
  have P : (-b).natAbs ≤ 32768 := by omega
  have R1 : (c + e).natAbs ≤ 65536 := by omega
  have R2 : (d + f).natAbs ≤ 65536 := by omega
  clear w0 w1 w2 w3 w4 w5
  have HX : Hid (VC (floatOfInt .f64 a) (floatOfInt .f64 b) a b) := Lib.hid ⟨vi_of_int a (by omega), vi_of_int b (by omega)⟩
  have HY : Hid (VC (floatOfInt .f64 c) (floatOfInt .f64 d) c d) := Lib.hid ⟨vi_of_int c (by omega), vi_of_int d (by omega)⟩
  have HZ : Hid (VC (floatOfInt .f64 e) (floatOfInt .f64 f) e f) := Lib.hid ⟨vi_of_int e (by omega), vi_of_int f (by omega)⟩
  have hB := floatOfInt_lt b
  obtain ⟨q1, q2⟩ := sq_wrap A B
  obtain ⟨-, q3⟩ := sq_wrap B A
  have s1 := small_mul A C
  have s2 := small_mul B D
  have s3 := small_mul A D
  have s4 := small_mul B C
  have s5 := small_mul A E
  have s6 := small_mul B F
  have s7 := small_mul A F
  have s8 := small_mul B E
  have s9 := small_mul A A
  have s10 := small_mul B B
  have HQ : Hid (VI (floatOfInt .f64 (a * a + b * b)) (a * a + b * b)) := Lib.hid (vi_of_int _ (by omega))
  have h00 : Hid (VI 0 0) := Lib.hid vi_zero
  go_enter Tryd.func7, Tryd.ntmps7
  go_wp2_with (first | (go_at_call 8; refine (known2_any _ hl).mono ?_; rintro ee w1 ⟨rfl, hb1⟩) | (go_at_call 22; first | ((with_reducible refine (wadd Hxy Hxz (by omega) (by omega) _).mono ?_); rintro ee w2 ⟨pr, qr, nr, Hr, rfl, rfl⟩; obtain ⟨g1, g2⟩ := vc_eq Hl Hr (by rw [Int.mul_add, Int.mul_add]; omega) (by rw [Int.mul_add, Int.mul_add]; omega)) | ((with_reducible refine (wadd HY HZ (by omega) (by omega) _).mono ?_); rintro ee w2 ⟨pyz, qyz, nyz, Hyz, rfl, rfl⟩) | ((with_reducible refine (wadd HX HY (by omega) (by omega) _).mono ?_); rintro ee w2 ⟨ps, qs, ns, Hs, rfl, rfl⟩)) | (go_at_call 15; first | ((with_reducible refine (wmul HX Hyz 32768 65536 (by decide) A B R1 R2 _).mono ?_); rintro ee w2 ⟨pl, ql, nl, Hl, rfl, rfl⟩) | ((with_reducible refine (wmul HX HJ 32768 32768 (by decide) A B A P _).mono ?_); rintro ee w2 ⟨pn, qn, nn, Hn, rfl, rfl⟩; have Hn1 : Hid (VI pn (a * a - b * -b)) := Lib.hid Hn.out.1; have Hn2 : Hid (VI qn (a * -b + b * a)) := Lib.hid Hn.out.2; have g3 := vi_eq' Hn2 h00 (by rw [Int.mul_neg, Int.mul_comm b a]; omega)) | ((with_reducible refine (wmul HY HX 32768 32768 (by decide) C D A B _).mono ?_); rintro ee w2 ⟨pyx, qyx, nyx, Hyx, rfl, rfl⟩; obtain ⟨g4, g5⟩ := vc_eq Hxy Hyx (by rw [Int.mul_comm c a, Int.mul_comm d b]) (by rw [Int.mul_comm c b, Int.mul_comm d a]; omega)) | ((with_reducible refine (wmul HX HZ 32768 32768 (by decide) A B E F _).mono ?_); rintro ee w2 ⟨pxz, qxz, nxz, Hxz, rfl, rfl⟩) | ((with_reducible refine (wmul HX HY 32768 32768 (by decide) A B C D _).mono ?_); rintro ee w2 ⟨pxy, qxy, nxy, Hxy, rfl, rfl⟩)) | (go_at_call 14; first | ((with_reducible refine (wconj HX hB _).mono ?_); rintro ee w2 ⟨pj, qj, nj, HJ, rfl, rfl⟩)) | (go_at_call 17; first | ((with_reducible refine (wnorm HX 32768 (by decide) A B _).mono ?_); rintro ee w2 ⟨nm, nk, HN, rfl, rfl⟩; have g6 := vi_eq' Hn1 HN (by rw [Int.mul_neg]; omega); have g7 := vi_eq' HN HQ rfl)) | (go_at_call 16; first | ((with_reducible refine (wsub Hs HY (by omega) (by omega) _).mono ?_); rintro ee w2 ⟨pd, qd, nd, HD, rfl, rfl⟩; obtain ⟨g8, g9⟩ := vc_eq HD HX (by omega) (by omega))))
  go_ret
  exact ⟨rfl, pw_below_drewN hb1 _⟩
end Go.Proofs.YtlfkachphpneiaaDoor
