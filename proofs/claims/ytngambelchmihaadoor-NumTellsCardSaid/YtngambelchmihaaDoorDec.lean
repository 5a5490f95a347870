/- Decimal digits: a number's text, and what strconv's parse makes of it: no program in sight. -/
import Derived.Laws.BytesArg
import Derived.Lib.ParseIntBTie
import Derived.Lib.AtoiAll
namespace Go.Proofs.YtngambelchmihaaDoor

/-- The digits of a number, as bytes. -/
def dg (m : Nat) : List Int := if h : m < 10 then [48 + (m : Int)] else dg (m / 10) ++ [48 + (m : Int) % 10]
termination_by m
decreasing_by omega
/-- A number's text. -/
def prt (n : Int) : ByteArray := if n < 0 then (ByteArray.mk #[45]) ++ strOfNums (dg n.natAbs) else strOfNums (dg n.natAbs)
theorem dg_small {m : Nat} (h : m < 10) : dg m = [48 + (m : Int) % 10] := by
  rw [dg, dif_pos h, Int.emod_eq_of_lt (by omega) (by omega)]
theorem dg_step {m : Nat} (h : 0 < m / 10) : dg m = dg (m / 10) ++ [48 + (m : Int) % 10] := by
  rw [dg, dif_neg (by omega)]
theorem dg_len (k : Nat) : ∀ m : Nat, m < 10 ^ (k + 1) → (dg m).length ≤ k + 1 := by
  induction k with
  | zero => intro m h; rw [dg_small (by omega)]; simp
  | succ k ih =>
    intro m h
    by_cases h10 : m < 10
    · rw [dg_small h10]; simp
    · rw [dg_step (by omega)]
      have := ih (m / 10) (by rw [Nat.pow_succ] at h; omega)
      simp; omega
theorem dg_pos (m : Nat) : 0 < (dg m).length := by
  by_cases h10 : m < 10
  · rw [dg_small h10]; simp
  · rw [dg_step (by omega)]; simp
theorem dg_abs {n : Int} (hn : -9223372036854775808 ≤ n) (hn' : n ≤ 9223372036854775807) : (dg n.natAbs).length ≤ 20 := dg_len 19 _ (by omega)

theorem strOfNums_size (xs : List Int) : (strOfNums xs).size = xs.length := by simp [strOfNums, ByteArray.size]

/-- The digits as bytes. -/
def dgB (m : Nat) : List UInt8 := (dg m).map fun n => UInt8.ofNat n.toNat
theorem dgB_small {m : Nat} (h : m < 10) : dgB m = [UInt8.ofNat (48 + m % 10)] := by
  unfold dgB; rw [dg_small h, List.map_cons, List.map_nil, show ((48 : Int) + (m : Int) % 10).toNat = 48 + m % 10 from by omega]
theorem dgB_step {m : Nat} (h : 0 < m / 10) : dgB m = dgB (m / 10) ++ [UInt8.ofNat (48 + m % 10)] := by
  unfold dgB; rw [dg_step h, List.map_append, List.map_cons, List.map_nil, show ((48 : Int) + (m : Int) % 10).toNat = 48 + m % 10 from by omega]
theorem strOfNums_list (xs : List Int) : (strOfNums xs).data.toList = xs.map fun n => UInt8.ofNat n.toNat := by simp [strOfNums]
theorem digit_toNat (d : Nat) (h : d < 10) : (UInt8.ofNat (48 + d)).toNat = 48 + d := by
  rw [UInt8.toNat_ofNat']; omega
theorem parse_one (a d : Nat) (hd : d < 10) (h : a * 10 + d < 18446744073709551616) (r : List UInt8) : Lib.parseUint10 a (UInt8.ofNat (48 + d) :: r) = Lib.parseUint10 (a * 10 + d) r := by
  rw [Lib.parseUint10, digit_toNat d hd, if_pos (by omega), if_neg (by omega), if_neg (by omega)]
  congr 1
  omega
theorem parse_dg (m : Nat) : ∀ r, m < 18446744073709551616 → Lib.parseUint10 0 (dgB m ++ r) = Lib.parseUint10 m r := by
  induction m using Nat.strongRecOn with
  | _ m ih =>
    intro r hm
    by_cases h : m < 10
    · rw [dgB_small h, List.cons_append, List.nil_append, parse_one 0 (m % 10) (by omega) (by omega)]
      congr 1
      omega
    · rw [dgB_step (by omega), List.append_assoc, ih (m / 10) (by omega) _ (by omega), List.cons_append, List.nil_append, parse_one (m / 10) (m % 10) (by omega) (by omega)]
      congr 1
      omega
theorem parse_dg_all (m : Nat) (hm : m < 18446744073709551616) : Lib.parseMag (dgB m) = .ok m := by
  have hne : dgB m ≠ [] := by
    have := dg_pos m
    intro h
    have h2 : (dgB m).length = 0 := by rw [h]; rfl
    unfold dgB at h2
    rw [List.length_map] at h2
    omega
  have h := parse_dg m [] hm
  rw [List.append_nil] at h
  rw [Lib.parseMag, if_neg hne, h]
  rfl
theorem dgB_head (m : Nat) : ∃ c r, dgB m = c :: r ∧ 48 ≤ c.toNat ∧ c.toNat ≤ 57 := by
  induction m using Nat.strongRecOn with
  | _ m ih =>
    by_cases h : m < 10
    · exact ⟨_, _, dgB_small h, by rw [digit_toNat _ (by omega)]; omega, by rw [digit_toNat _ (by omega)]; omega⟩
    · obtain ⟨c, r, hc, h1, h2⟩ := ih (m / 10) (by omega)
      exact ⟨c, _, by rw [dgB_step (by omega), hc, List.cons_append], h1, h2⟩
theorem prt_list (n : Int) : (prt n).data.toList = (if n < 0 then [45] else []) ++ dgB n.natAbs := by
  unfold prt
  split
  · rw [ByteArray.data_append]; simp [strOfNums, dgB]
  · simp [strOfNums, dgB]
/-- What is printed is read. -/
theorem parse_prt (n : Int) (hn : -9223372036854775808 ≤ n) (hn' : n ≤ 9223372036854775807) : Lib.parseIntB 64 (prt n).data.toList = .ok n := by
  rw [Lib.parseIntB_64, prt_list]
  have hp := parse_dg_all n.natAbs (by omega)
  by_cases h : n < 0
  · rw [if_pos h]
    simp only [Lib.atoiAll, List.cons_append, List.nil_append]
    rw [show (45 : UInt8).toNat = 45 from rfl, if_pos (Or.inr rfl), hp]
    simp only
    rw [if_neg (by simp), if_neg (by omega), if_pos trivial]
    congr 1
    omega
  · rw [if_neg h, List.nil_append]
    obtain ⟨c, r, hc, h1, h2⟩ := dgB_head n.natAbs
    rw [hc] at hp ⊢
    simp only [Lib.atoiAll]
    rw [if_neg (by omega), hp]
    simp only
    rw [if_neg (by omega), if_neg (by omega), if_neg (by omega)]
    congr 1
    omega
/-- What a text is read as, the text being printed again. -/
def rdv (s : ByteArray) : Int := match Lib.parseIntB 64 s.data.toList with | .ok v => if prt v = s then v else 0 | _ => 0
def rdk (s : ByteArray) : Bool := match Lib.parseIntB 64 s.data.toList with | .ok v => decide (prt v = s) | _ => false
theorem rd_prt {n : Int} (hn : -9223372036854775808 ≤ n) (hn' : n ≤ 9223372036854775807) : rdv (prt n) = n ∧ rdk (prt n) = true := by
  unfold rdv rdk; rw [parse_prt n hn hn']; simp
theorem rd_none {s : ByteArray} (h : ∀ n : Int, -9223372036854775808 ≤ n → n ≤ 9223372036854775807 → prt n ≠ s) : rdv s = 0 ∧ rdk s = false := by
  unfold rdv rdk
  cases hp : Lib.parseIntB 64 s.data.toList with
  | ok v =>
    obtain ⟨h1, h2⟩ := Lib.parseIntB_bounds hp
    have := h v (by simpa using h1) (by have h3 : v < 9223372036854775808 := by simpa using h2
                                        omega)
    simp [this]
  | _ => simp
theorem prt_small {n : Int} (hn : -9223372036854775808 ≤ n) (hn' : n ≤ 9223372036854775807) : (prt n).size ≤ 21 := by
  have := dg_abs hn hn'
  unfold prt
  split
  · rw [ByteArray.size_append, strOfNums_size]
    show 1 + _ ≤ 21
    omega
  · rw [strOfNums_size]
    omega
theorem prt_size {n : Int} (hn : -9223372036854775808 ≤ n) (hn' : n ≤ 9223372036854775807) : (prt n).size ≤ 140737488351232 := Nat.le_trans (prt_small hn hn') (by omega)
theorem dgB_first (m : Nat) : ∃ c r, dgB m = c :: r ∧ 48 ≤ c.toNat ∧ c.toNat ≤ 57 ∧ (m = 0 → r = []) ∧ (0 < m → c.toNat ≠ 48) := by
  induction m using Nat.strongRecOn with
  | _ m ih =>
    by_cases h : m < 10
    · exact ⟨_, _, dgB_small h, by rw [digit_toNat _ (by omega)]; omega, by rw [digit_toNat _ (by omega)]; omega, fun _ => rfl, by rw [digit_toNat _ (by omega)]; omega⟩
    · obtain ⟨c, r, hc, h1, h2, _, h4⟩ := ih (m / 10) (by omega)
      exact ⟨c, _, by rw [dgB_step (by omega), hc, List.cons_append], h1, h2, by omega, fun _ => h4 (by omega)⟩
theorem prt_first (n : Int) : ∃ c r, (prt n).data.toList = c :: r ∧ (c.toNat = 45 ∨ 48 ≤ c.toNat ∧ c.toNat ≤ 57) ∧ (c.toNat = 48 → r = []) := by
  rw [prt_list]
  obtain ⟨c, r, hc, h1, h2, h3, h4⟩ := dgB_first n.natAbs
  by_cases h : n < 0
  · rw [if_pos h]
    exact ⟨45, _, rfl, Or.inl rfl, by intro h'; exact absurd h' (by decide)⟩
  · rw [if_neg h, hc]
    refine ⟨c, r, rfl, Or.inr ⟨h1, h2⟩, fun h' => ?_⟩
    rcases Nat.eq_zero_or_pos n.natAbs with h0 | h0
    · exact h3 h0
    · exact absurd h' (h4 h0)
theorem prt_last (n : Int) : ∃ l c, (prt n).data.toList = l ++ [c] ∧ 48 ≤ c.toNat ∧ c.toNat ≤ 57 := by
  rw [prt_list]
  have hd : ∃ l c, dgB n.natAbs = l ++ [c] ∧ 48 ≤ c.toNat ∧ c.toNat ≤ 57 := by
    by_cases h : n.natAbs < 10
    · exact ⟨[], _, by rw [dgB_small h]; rfl, by rw [digit_toNat _ (by omega)]; omega, by rw [digit_toNat _ (by omega)]; omega⟩
    · exact ⟨_, _, dgB_step (by omega), by rw [digit_toNat _ (by omega)]; omega, by rw [digit_toNat _ (by omega)]; omega⟩
  obtain ⟨l, c, h, h1, h2⟩ := hd
  exact ⟨_ ++ l, c, by rw [h, List.append_assoc], h1, h2⟩
theorem spoilt_front (n : Int) (c : UInt8) (hc : c.toNat ≠ 45) (hc2 : c.toNat ≤ 48) : rdk (ByteArray.mk #[c] ++ prt n) = false ∧ (ByteArray.mk #[c] ++ prt n).size = 1 + (prt n).size := by
  refine ⟨(rd_none fun m _ _ he => ?_).2, by rw [ByteArray.size_append]; rfl⟩
  have h := congrArg (fun s : ByteArray => s.data.toList) he
  simp only [ByteArray.data_append, Array.toList_append] at h
  obtain ⟨c1, r1, e1, h1, h2⟩ := prt_first m
  obtain ⟨c2, r2, e2, h3, h4⟩ := prt_first n
  rw [e1, e2] at h
  simp only [List.cons_append, List.nil_append, List.cons.injEq] at h
  obtain ⟨rfl, rfl⟩ := h
  rcases h1 with h1 | h1
  · exact hc h1
  · have := h2 (by omega)
    cases this
theorem spoilt_behind (n : Int) (c : UInt8) (hc : c.toNat < 48 ∨ 57 < c.toNat) : rdk (prt n ++ ByteArray.mk #[c]) = false ∧ (prt n ++ ByteArray.mk #[c]).size = (prt n).size + 1 := by
  refine ⟨(rd_none fun m _ _ he => ?_).2, by rw [ByteArray.size_append]; rfl⟩
  have h := congrArg (fun s : ByteArray => s.data.toList) he
  simp only [ByteArray.data_append, Array.toList_append] at h
  obtain ⟨l, c1, e1, h1, h2⟩ := prt_last m
  rw [e1] at h
  have := (List.append_inj' h rfl).2
  simp only [List.cons.injEq, and_true] at this
  subst this
  omega
end Go.Proofs.YtngambelchmihaaDoor
