/- The reference's complex numbers: its parse, and its ways to compare. -/
import Derived.Test.YtlfkachphpneiaaDoorCParse
import Derived.Deep.QuietTactic
import Derived.BigQuiet
namespace Go.Proofs.YtlfkachphpneiaaDoor
open Go.RowKit Go.Proofs.YtlfkachphpneiaaDoorW.PrintWords
attribute [local go_sem] run_tobits run_frombits

/-- One more sign. -/
def uhs (m d : Int) : Int := bits BinOp.or IntKind.u64 (IntKind.u64.wrap (m * 16)) d
def uhd (c : Int) : Int := if 48 ≤ c ∧ c ≤ 57 then c - 48 else if 97 ≤ c ∧ c ≤ 102 then c - 97 + 10 else 0
def uh (m : Int) : List UInt8 → Int
  | [] => m
  | c :: r => uh (uhs m (uhd (c.toNat : Int))) r
theorem uhd_bd (c : Int) : 0 ≤ uhd c ∧ uhd c < 16 := by
  unfold uhd; split
  · omega
  · split <;> omega
theorem uhs_nat (m d : Nat) (hd : d < 16) (h : 16 * m + d < 18446744073709551616) : uhs m d = ((16 * m + d : Nat) : Int) := by
  unfold uhs
  have e : IntKind.u64.wrap ((m : Int) * 16) = ((16 * m : Nat) : Int) := by simp [IntKind.wrap, IntKind.bits, IntKind.signed]; omega
  rw [e, u64_or_nat (16 * m) d (by omega) (by omega)]
  congr 1
  have := Nat.two_pow_add_eq_or_of_lt (i := 4) (b := d) (by omega) m
  rw [show 2 ^ 4 * m = 16 * m from by omega] at this
  omega
theorem uhs_bd (m d : Int) (h0 : 0 ≤ d) (h1 : d < 16) : 0 ≤ uhs m d ∧ uhs m d < 18446744073709551616 := by
  unfold uhs
  obtain ⟨a, ha, hb⟩ : ∃ a : Nat, IntKind.u64.wrap (m * 16) = (a : Int) ∧ a < 18446744073709551616 := ⟨(IntKind.u64.wrap (m * 16)).toNat, by simp [IntKind.wrap, IntKind.bits, IntKind.signed]; omega, by simp [IntKind.wrap, IntKind.bits, IntKind.signed]; omega⟩
  obtain ⟨b, rfl⟩ := Int.eq_ofNat_of_zero_le h0
  rw [ha, show ((b : Nat) : Int) = (b : Int) from rfl, u64_or_nat a b hb (by omega)]
  have := Nat.or_lt_two_pow (n := 64) hb (show b < 2 ^ 64 by omega)
  omega
theorem uhd_byte : ∀ d : Fin 16, uhd ((UInt8.ofNat (hd (d.val : Int)).toNat).toNat : Int) = (d.val : Int) := by decide +kernel
theorem uh_hk (k : Nat) : ∀ (n m : Nat) (r : List UInt8), m * 16 ^ k + n % 16 ^ k < 18446744073709551616 → uh m ((hk k n).map (fun x => UInt8.ofNat x.toNat) ++ r) = uh ((m * 16 ^ k + n % 16 ^ k : Nat) : Int) r := by
  induction k with
  | zero => intro n m r _; simp [hk, Nat.mod_one]
  | succ k ih =>
    intro n m r hlt
    have h1 : n % 16 ^ (k + 1) = n % 16 + 16 * (n / 16 % 16 ^ k) := by rw [Nat.pow_succ, Nat.mul_comm, Nat.mod_mul]
    have h2 : m * 16 ^ (k + 1) = 16 * (m * 16 ^ k) := by rw [Nat.pow_succ, Nat.mul_comm (16 ^ k) 16, ← Nat.mul_assoc, Nat.mul_comm m 16, Nat.mul_assoc]
    rw [h1, h2] at hlt ⊢
    rw [hk, List.map_append, List.append_assoc, ih _ _ _ (by omega)]
    rw [List.map_cons, List.map_nil, List.cons_append, List.nil_append, uh]
    have h := uhd_byte ⟨n % 16, Nat.mod_lt _ (by decide)⟩
    have e : ((n : Int) % 16) = ((n % 16 : Nat) : Int) := by omega
    rw [e, h]
    show uh (uhs _ ((n % 16 : Nat) : Int)) r = _
    rw [uhs_nat _ _ (by omega) (by omega)]
    congr 2
    omega
theorem uh_ok {n : Nat} (hn : n < 18446744073709551616) : uh 0 ((hk 16 n).map fun x => UInt8.ofNat x.toNat) = (n : Int) := by
  have e : 0 * 16 ^ 16 + n % 16 ^ 16 = n := by
    rw [Nat.zero_mul, Nat.zero_add]
    exact Nat.mod_eq_of_lt (Nat.lt_of_lt_of_le hn (by decide))
  have h := uh_hk 16 n 0 [] (by rw [e]; exact hn)
  rw [List.append_nil, e] at h
  exact h
theorem uh_bd (l : List UInt8) : ∀ m, 0 ≤ m → m < 18446744073709551616 → 0 ≤ uh m l ∧ uh m l < 18446744073709551616 := by
  induction l with
  | nil => intro m h0 h1; exact ⟨h0, h1⟩
  | cons c r ih =>
    intro m h0 h1
    rw [uh]
    obtain ⟨d0, d1⟩ := uhd_bd (c.toNat : Int)
    obtain ⟨u0, u1⟩ := uhs_bd m _ d0 d1
    exact ih _ u0 u1
theorem uhd_dig {c : Int} (g1 : 48 ≤ c) (g2 : c ≤ 57) : uhd c = c - 48 := by unfold uhd; rw [if_pos ⟨g1, g2⟩]
theorem uhd_let {c : Int} (g1 : 97 ≤ c) (g2 : c ≤ 102) : uhd c = c - 97 + 10 := by unfold uhd; rw [if_neg (by omega), if_pos ⟨g1, g2⟩]
theorem uhd_no {c : Int} (h : c < 48 ∨ (57 < c ∧ c < 97) ∨ 102 < c) : uhd c = 0 := by unfold uhd; rw [if_neg (by omega), if_neg (by omega)]
set_option maxHeartbeats 2000000 in
theorem unhex_any (s : ByteArray) (hs : s.size ≤ 100) (w : World) : Calls Tryd.prog 35 #[.string s] w fun e w' => e = .returned (.int .u64 (uh 0 s.data.toList)) ∧ w = w' := by
  go_enter Tryd.func35, Tryd.ntmps35
  go_wp2
  go_loop [3, 4] (fun n i => ∃ (k : Nat) (m : Int), k ≤ s.size ∧ i = .int .i64 k ∧ n = .int .u64 m ∧ uh m (s.data.toList.drop k) = uh 0 s.data.toList) (fun _ i => s.size - (intOf i).toNat)
  case atStart => exact ⟨0, 0, Nat.zero_le _, rfl, rfl, by simp⟩
  case round =>
    obtain ⟨k, m, hk, rfl, rfl, hp⟩ := hrel
    by_cases hlt : k < s.size
    · have hd0 := drop_at s k hlt
      rw [hd0, uh] at hp
      obtain ⟨c, hc⟩ : ∃ c : Nat, c = (s[k]).toNat := ⟨_, rfl⟩
      rw [← hc] at hp
      have HP := Lib.hid hp
      have hc' : (s[k]).toNat = c := hc.symm
      have hc256 : c < 256 := by rw [hc]; exact (s[k]).toNat_lt
      clear hp hd0 hc
      have hcs : (c : Int) < 48 ∨ (48 ≤ (c : Int) ∧ (c : Int) ≤ 57) ∨ (57 < (c : Int) ∧ (c : Int) < 97) ∨ (97 ≤ (c : Int) ∧ (c : Int) ≤ 102) ∨ 102 < (c : Int) := by omega
      rcases hcs with g | ⟨g1, g2⟩ | ⟨g1, g2⟩ | ⟨g1, g2⟩ | g
      · have HX : Hid (uh (bits BinOp.or IntKind.u64 (IntKind.u64.wrap (m * 16)) (0)) (s.data.toList.drop (k + 1)) = uh 0 s.data.toList) := Lib.hid (by
          have h := HP.out
          rw [uhd_no (Or.inl g)] at h
          exact h)
        go_wp2
        go_round
        case rel => exact ⟨k + 1, _, by omega, by go_num, rfl, HX.out⟩
        case measure => simp [intOf]; omega
      · have HX : Hid (uh (bits BinOp.or IntKind.u64 (IntKind.u64.wrap (m * 16)) ((c : Int) - 48)) (s.data.toList.drop (k + 1)) = uh 0 s.data.toList) := Lib.hid (by
          have h := HP.out
          rw [uhd_dig g1 g2] at h
          exact h)
        go_wp2
        go_round
        case rel => exact ⟨k + 1, _, by omega, by go_num, rfl, HX.out⟩
        case measure => simp [intOf]; omega
      · have HX : Hid (uh (bits BinOp.or IntKind.u64 (IntKind.u64.wrap (m * 16)) (0)) (s.data.toList.drop (k + 1)) = uh 0 s.data.toList) := Lib.hid (by
          have h := HP.out
          rw [uhd_no (Or.inr (Or.inl ⟨g1, g2⟩))] at h
          exact h)
        go_wp2
        go_round
        case rel => exact ⟨k + 1, _, by omega, by go_num, rfl, HX.out⟩
        case measure => simp [intOf]; omega
      · have HX : Hid (uh (bits BinOp.or IntKind.u64 (IntKind.u64.wrap (m * 16)) ((c : Int) - 97 + 10)) (s.data.toList.drop (k + 1)) = uh 0 s.data.toList) := Lib.hid (by
          have h := HP.out
          rw [uhd_let g1 g2] at h
          exact h)
        go_wp2
        go_round
        case rel => exact ⟨k + 1, _, by omega, by go_num, rfl, HX.out⟩
        case measure => simp [intOf]; omega
      · have HX : Hid (uh (bits BinOp.or IntKind.u64 (IntKind.u64.wrap (m * 16)) (0)) (s.data.toList.drop (k + 1)) = uh 0 s.data.toList) := Lib.hid (by
          have h := HP.out
          rw [uhd_no (Or.inr (Or.inr g))] at h
          exact h)
        go_wp2
        go_round
        case rel => exact ⟨k + 1, _, by omega, by go_num, rfl, HX.out⟩
        case measure => simp [intOf]; omega
    · have HP : Hid (m = uh 0 s.data.toList) := Lib.hid (by
        rw [List.drop_eq_nil_of_le (by rw [data_length]; omega), uh] at hp
        exact hp)
      clear hp
      go_wp2
      go_ret
      exact ⟨by rw [← HP.out]; rfl, rfl⟩
theorem toNat_bd {n : Int} (h0 : 0 ≤ n) (h1 : n < 18446744073709551616) : n.toNat < 18446744073709551616 ∧ ((n.toNat : Nat) : Int) = n := by omega
/-- A value is handed back; orders have been drawn, no more. -/
def SomeP (v : Value) (w : World) (e : Ending) (w' : World) : Prop := e = .returned v ∧ ∃ n, w' = w.drewN n
theorem rof_same (a b : Int) (w : World) : Calls Tryd.prog 18 #[.int .u64 a, .int .u64 b] w fun e w' => e = .returned (.complex .f64 a.toNat b.toNat) ∧ w' = w := (rof_any a b w).mono fun _ _ ⟨h1, h2⟩ => ⟨h1, h2.symm⟩
theorem unhex_same (s : ByteArray) (hs : s.size ≤ 100) (w : World) : Calls Tryd.prog 35 #[.string s] w fun e w' => e = .returned (.int .u64 (uh 0 s.data.toList)) ∧ w' = w := (unhex_any s hs w).mono fun _ _ ⟨h1, h2⟩ => ⟨h1, h2.symm⟩
set_option maxHeartbeats 2000000 in
theorem rcparse_any (s : ByteArray) (w : World) : Calls Tryd.prog 20 #[.string s] w (SomeP (CP (cw s)) w) := by
  by_cases hs : s.size = 33
  · have z1 : (s.extract 1 17).size ≤ 100 := by rw [ByteArray.size_extract]; omega
    have z2 : (s.extract 17 33).size ≤ 100 := by rw [ByteArray.size_extract]; omega
    obtain ⟨x, hx⟩ : ∃ x, x = uh 0 (s.extract 1 17).data.toList := ⟨_, rfl⟩
    obtain ⟨y, hy⟩ : ∃ y, y = uh 0 (s.extract 17 33).data.toList := ⟨_, rfl⟩
    obtain ⟨x0, x1⟩ := uh_bd (s.extract 1 17).data.toList 0 (by omega) (by omega)
    obtain ⟨y0, y1⟩ := uh_bd (s.extract 17 33).data.toList 0 (by omega) (by omega)
    rw [← hx] at x0 x1
    rw [← hy] at y0 y1
    obtain ⟨bx, _⟩ := toNat_bd x0 x1
    obtain ⟨bY, _⟩ := toNat_bd y0 y1
    have H1 := Lib.hid (unhex_same (s.extract 1 17) z1)
    have H2 := Lib.hid (unhex_same (s.extract 17 33) z2)
    rw [← hx] at H1
    rw [← hy] at H2
    by_cases he : strOfNums (ctx x.toNat y.toNat) = s
    · have hr : cw s = some (x.toNat, y.toNat) := by rw [← he]; exact cw_ok bx bY
      rw [hr]
      have HE := Lib.hid he
      clear he hr hx hy
      go_enter Tryd.func20, Tryd.ntmps20
      go_wp2_with fail
      go_quiet (first | (go_at_call 35; first | (with_reducible exact Calls.quiet_of_same (H1.out _)) | (with_reducible exact Calls.quiet_of_same (H2.out _))) | (go_at_call 18; with_reducible exact Calls.quiet_of_same (rof_same _ _ _)))
      go_wp2_with (first | (go_at_call 29; refine (rprint2_any _ _ bx bY _).mono ?_; rw [HE.out]; rintro e w1 ⟨rfl, rfl⟩))
      go_ret2
      exact ⟨rfl, _, rfl⟩
    · have hr : cw s = none := cw_none fun a b ha hb h => he (by
        rw [hx, hy, ← h, ctx_first, ctx_second, uh_ok ha, uh_ok hb]
        rfl)
      rw [hr]
      have HE := str_ne he
      clear he hr hx hy
      go_enter Tryd.func20, Tryd.ntmps20
      go_wp2_with fail
      go_quiet (first | (go_at_call 35; first | (with_reducible exact Calls.quiet_of_same (H1.out _)) | (with_reducible exact Calls.quiet_of_same (H2.out _))) | (go_at_call 18; with_reducible exact Calls.quiet_of_same (rof_same _ _ _)))
      go_wp2_with (first | (go_at_call 29; refine (rprint2_any _ _ bx bY _).mono ?_; rintro e w1 ⟨rfl, rfl⟩))
      go_ret2
      exact ⟨rfl, _, rfl⟩
  · have hcw : cw s = none := by unfold cw; rw [if_neg hs]
    rw [hcw]
    have h33 : ((s.size : Int) == 33) = false := by rw [beq_eq_false_iff_ne]; omega
    clear hcw hs
    go_enter Tryd.func20, Tryd.ntmps20
    go_wp2
    go_ret2
    exact ⟨rfl, 0, rfl⟩
theorem order_ne (b : Nat) : (FloatKind.f64.format.order b b != some .eq) = nan b := by rw [bne, order_self, Bool.not_not]
theorem rpart_any (p q : Nat) (w : World) : Calls Tryd.prog 36 #[.float .f64 p, .float .f64 q] w fun e w' => e = .returned (.bool (alk p q)) ∧ w = w' := by
  have h1 := order_ne p
  have h2 := order_ne q
  by_cases h : p = q
  · subst h
    cases hn : nan p with
    | true =>
      rw [hn] at h1
      go_enter Tryd.func36, Tryd.ntmps36
      go_wp2
      go_ret
      exact ⟨by simp [alk], rfl⟩
    | false =>
      rw [hn] at h1
      go_enter Tryd.func36, Tryd.ntmps36
      go_wp2
      go_ret
      exact ⟨by simp [alk], rfl⟩
  · have h3 : ((p : Int) == (q : Int)) = false := by rw [beq_eq_false_iff_ne]; omega
    have H := Lib.hid h
    clear h
    cases hn : nan p with
    | true =>
      cases hm : nan q with
      | true =>
        rw [hn] at h1; rw [hm] at h2
        go_enter Tryd.func36, Tryd.ntmps36
        go_wp2
        go_ret
        exact ⟨by unfold alk; rw [hn, hm]; simp, rfl⟩
      | false =>
        rw [hn] at h1; rw [hm] at h2
        go_enter Tryd.func36, Tryd.ntmps36
        go_wp2
        go_ret
        exact ⟨by unfold alk; rw [hn, hm, beq_eq_false_iff_ne.2 H.out]; rfl, rfl⟩
    | false =>
      rw [hn] at h1
      go_enter Tryd.func36, Tryd.ntmps36
      go_wp2
      go_ret
      exact ⟨by unfold alk; rw [hn, beq_eq_false_iff_ne.2 H.out]; rfl, rfl⟩
theorem ralike_any (a b c d : Nat) (w : World) : Calls Tryd.prog 21 #[.complex .f64 a b, .complex .f64 c d] w fun e w' => e = .returned (.bool (alk a c && alk b d)) ∧ w = w' := by
  cases h : alk a c with
  | true =>
    go_enter Tryd.func21, Tryd.ntmps21
    go_wp2_with (first | (go_at_call 36; first | ((with_reducible refine (rpart_any a c _).mono ?_); rw [h]; rintro e w' ⟨rfl, rfl⟩) | ((with_reducible refine (rpart_any b d _).mono ?_); rintro e w' ⟨rfl, rfl⟩)))
    go_ret
    exact ⟨rfl, rfl⟩
  | false =>
    go_enter Tryd.func21, Tryd.ntmps21
    go_wp2_with (first | (go_at_call 36; first | ((with_reducible refine (rpart_any a c _).mono ?_); rw [h]; rintro e w' ⟨rfl, rfl⟩)))
    go_ret
    exact ⟨rfl, rfl⟩
theorem rnan_any (a b : Nat) (w : World) : Calls Tryd.prog 26 #[.complex .f64 a b] w fun e w' => e = .returned (.bool (nan a || nan b)) ∧ w = w' := by
  have h1 := order_ne a
  have h2 := order_ne b
  cases hn : nan a <;> cases hm : nan b
  all_goals
    rw [hn] at h1
    rw [hm] at h2
    go_enter Tryd.func26, Tryd.ntmps26
    go_wp2
    go_ret
    exact ⟨rfl, rfl⟩
theorem rsame_yes (a b c d : Nat) (h1 : a = c) (h2 : b = d) (w : World) : Calls Tryd.prog 27 #[.complex .f64 a b, .complex .f64 c d] w fun e w' => e = .returned (.bool true) ∧ w = w' := by
  subst h1 h2
  go_enter Tryd.func27, Tryd.ntmps27
  go_wp2_with (go_at_call 37; refine (rbits_any _ _ _).mono ?_; rintro e w1 ⟨rfl, rfl⟩)
  go_ret
  exact ⟨rfl, rfl⟩
end Go.Proofs.YtlfkachphpneiaaDoor
