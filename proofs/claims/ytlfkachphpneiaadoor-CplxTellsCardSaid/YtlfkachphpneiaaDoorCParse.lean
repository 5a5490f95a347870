/- strconv.ParseUint at base 16 and cplx.Parse: what they answer, for every text. -/
import Derived.Test.YtlfkachphpneiaaDoorPU16
import Derived.Test.YtlfkachphpneiaaDoorShelf
import Derived.Test.YtlfkachphpneiaaDoorBase
import Derived.Shelf.Strconv.ToError
import Derived.WalkSmall
import Derived.LaidLaws
namespace Go.Proofs.YtlfkachphpneiaaDoor
open Go.RowKit Go.Proofs.YtlfkachphpneiaaDoorW.PrintWords
attribute [local go_sem] run_tobits run_frombits

/-- What the listed variables give: strconv.ErrSyntax holds something that is no nil; the table's cell. -/
def LaidC (w : World) : Prop := (∃ t p, w.cell? ⟨1, 0, none⟩ = some (.iface t p)) ∧ Tab16 w
theorem LaidC.below {w w' : World} (h : LaidC w) (hb : Below w.heap.size w w') : LaidC w' := by
  obtain ⟨⟨t, p, hc⟩, hT⟩ := h
  exact ⟨⟨t, p, pw_cell_below hb hc⟩, hT.below hb⟩
def PUS (r : Option Nat) (e : Ending) : Prop := (∃ v, r = some v ∧ e = .returned (.tuple #[.int .u64 (v : Int), .nilIface])) ∨ (r = none ∧ ∃ x, e = .returned (.tuple #[.int .u64 0, .iface 80 (.pointer (some x))]))
theorem toerr_any (fn s : ByteArray) (hs : s.size ≤ 16) (w : World) (hl : LaidC w) : Calls Tryd.prog 42 #[.string fn, .string s, .int .i64 16, .int .i64 64, .iface 77 (.int .i64 2)] w fun e w' => (∃ x, e = .returned (.iface 80 (.pointer (some x)))) ∧ Below w.heap.size w w' := by
  obtain ⟨⟨t, p, hc⟩, hT⟩ := hl
  exact (Any.strconv_toError_syntax Tryd.laysC245 fn s 16 64 _ w (by omega) hc (Or.inr ⟨t, p, rfl⟩)).mono fun e w' ⟨N, he, _, _, hb⟩ => ⟨⟨_, he⟩, hb⟩
theorem spu_any (s : ByteArray) (h0 : 0 < s.size) (hs : s.size ≤ 16) (w : World) (hl : LaidC w) : Calls Tryd.prog 33 #[.string s, .int .i64 16, .int .i64 64] w fun e w' => PUS (pu 0 s.data.toList) e ∧ Below w.heap.size w w' := by
  have hi := ipu_any s h0 hs
  cases hp : pu 0 s.data.toList with
  | some v =>
    have H : ∀ w, Calls Tryd.prog 41 #[.string s, .int .i64 16, .int .i64 64] w fun e w' => e = .returned (.tuple #[.int .u64 (v : Int), .nilIface]) ∧ Below w.heap.size w w' := fun w => (hi w).mono fun e w' ⟨h1, hb⟩ => by
      rw [hp] at h1
      rcases h1 with ⟨v', h2, h3⟩ | ⟨h2, _⟩
      · injection h2 with h2; subst h2; exact ⟨h3, hb⟩
      · cases h2
    have HH := Lib.hid H
    clear H hi hp
    go_enter Tryd.func33, Tryd.ntmps33
    go_wp2_with (go_at_call 41; refine (HH.out _).mono ?_; rintro e w1 ⟨rfl, hb⟩)
    go_ret2
    exact ⟨Or.inl ⟨v, rfl, rfl⟩, hb⟩
  | none =>
    have H : ∀ w, Calls Tryd.prog 41 #[.string s, .int .i64 16, .int .i64 64] w fun e w' => e = .returned (.tuple #[.int .u64 0, .iface 77 (.int .i64 2)]) ∧ Below w.heap.size w w' := fun w => (hi w).mono fun e w' ⟨h1, hb⟩ => by
      rw [hp] at h1
      rcases h1 with ⟨v', h2, h3⟩ | ⟨h2, h3⟩
      · cases h2
      · exact ⟨h3, hb⟩
    have HH := Lib.hid H
    clear H hi hp
    go_enter Tryd.func33, Tryd.ntmps33
    go_wp2_with (first | (go_at_call 41; refine (HH.out _).mono ?_; rintro e w1 ⟨rfl, hb⟩) | (go_at_call 42; refine (toerr_any _ s hs _ (hl.below hb)).mono ?_; rintro e w2 ⟨⟨x, rfl⟩, hb2⟩))
    go_ret2
    exact ⟨Or.inr ⟨rfl, x, rfl⟩, below_step hb hb2⟩

/-- The words that a text tells, if it is one of a complex number. -/
def cwOf (s : ByteArray) : Option Nat → Option Nat → Option (Nat × Nat)
  | some x, some y => if strOfNums (ctx x y) = s then some (x, y) else none
  | _, _ => none
def cw (s : ByteArray) : Option (Nat × Nat) := if s.size = 33 then cwOf s (pu 0 (s.extract 1 17).data.toList) (pu 0 (s.extract 17 33).data.toList) else none
theorem hd_byte : ∀ d : Fin 16, hv ((UInt8.ofNat (hd (d.val : Int)).toNat).toNat : Int) = some d.val := by decide +kernel
theorem pu_hk (k : Nat) : ∀ (n m : Nat) (r : List UInt8), pu m ((hk k n).map (fun x => UInt8.ofNat x.toNat) ++ r) = pu (m * 16 ^ k + n % 16 ^ k) r := by
  induction k with
  | zero => intro n m r; simp [hk, Nat.mod_one]
  | succ k ih =>
    intro n m r
    rw [hk, List.map_append, List.append_assoc, ih]
    rw [List.map_cons, List.map_nil, List.cons_append, List.nil_append, pu]
    have h := hd_byte ⟨n % 16, Nat.mod_lt _ (by decide)⟩
    have e : ((n : Int) % 16) = ((n % 16 : Nat) : Int) := by omega
    rw [e, h]
    show pu (16 * (m * 16 ^ k + n / 16 % 16 ^ k) + n % 16) r = _
    congr 1
    have h1 : n % 16 ^ (k + 1) = n % 16 + 16 * (n / 16 % 16 ^ k) := by rw [Nat.pow_succ, Nat.mul_comm, Nat.mod_mul]
    rw [h1, Nat.pow_succ, Nat.mul_add]
    have h2 : 16 * (m * 16 ^ k) = m * (16 ^ k * 16) := by rw [Nat.mul_comm 16, Nat.mul_assoc]
    omega
theorem pu_ok {n : Nat} (hn : n < 18446744073709551616) : pu 0 ((hk 16 n).map fun x => UInt8.ofNat x.toNat) = some n := by
  have h := pu_hk 16 n 0 []
  rw [List.append_nil] at h
  have e : 0 * 16 ^ 16 + n % 16 ^ 16 = n := by
    rw [Nat.zero_mul, Nat.zero_add]
    exact Nat.mod_eq_of_lt (Nat.lt_of_lt_of_le hn (by decide))
  rw [e] at h
  exact h
theorem ctx_list (x y : Nat) : (strOfNums (ctx x y)).data.toList = 99 :: ((hk 16 x).map (fun z => UInt8.ofNat z.toNat) ++ (hk 16 y).map fun z => UInt8.ofNat z.toNat) := by
  simp [strOfNums, ctx]
theorem ctx_size (x y : Nat) : (strOfNums (ctx x y)).size = 33 := by rw [strOfNums_size, ctx]; simp [hk_length]
theorem ctx_first (x y : Nat) : ((strOfNums (ctx x y)).extract 1 17).data.toList = (hk 16 x).map fun z => UInt8.ofNat z.toNat := by
  rw [Lib.extract_data, ctx_list]
  simp [hk_length]
theorem bytes_length (k n : Nat) : ((hk k n).map fun z => UInt8.ofNat z.toNat).length = k := by rw [List.length_map, hk_length]
theorem ctx_second (x y : Nat) : ((strOfNums (ctx x y)).extract 17 33).data.toList = (hk 16 y).map fun z => UInt8.ofNat z.toNat := by
  rw [Lib.extract_data, ctx_list, show 17 = 16 + 1 from rfl, List.drop_succ_cons, List.drop_left' (bytes_length 16 x), List.take_of_length_le (by rw [bytes_length]; decide)]
theorem cw_ok {x y : Nat} (hx : x < 18446744073709551616) (hy : y < 18446744073709551616) : cw (strOfNums (ctx x y)) = some (x, y) := by
  unfold cw
  rw [if_pos (ctx_size x y), ctx_first, ctx_second, pu_ok hx, pu_ok hy]
  rw [cwOf, if_pos rfl]
theorem cwOf_some {s : ByteArray} {a b : Option Nat} {x y : Nat} (h : cwOf s a b = some (x, y)) : a = some x ∧ b = some y ∧ strOfNums (ctx x y) = s := by
  rcases a with _ | a
  · cases h
  rcases b with _ | b
  · cases h
  by_cases hs : strOfNums (ctx a b) = s
  · rw [cwOf, if_pos hs] at h
    have h1 := congrArg Prod.fst (Option.some.inj h)
    have h2 := congrArg Prod.snd (Option.some.inj h)
    simp only at h1 h2
    subst h1 h2
    exact ⟨rfl, rfl, hs⟩
  · rw [cwOf, if_neg hs] at h
    cases h
theorem cw_some {s : ByteArray} {x y : Nat} (h : cw s = some (x, y)) : strOfNums (ctx x y) = s := by
  by_cases hs : s.size = 33
  · unfold cw at h
    rw [if_pos hs] at h
    exact (cwOf_some h).2.2
  · unfold cw at h
    rw [if_neg hs] at h
    cases h
theorem pu_bd (l : List UInt8) : ∀ m v, pu m l = some v → v < (m + 1) * 16 ^ l.length := by
  induction l with
  | nil => intro m v h; simp only [pu, Option.some.injEq] at h; simp; omega
  | cons c r ih =>
    intro m v h
    simp only [pu] at h
    cases hc : hv (c.toNat : Int) with
    | none => rw [hc] at h; cases h
    | some d =>
      rw [hc] at h
      have h1 := ih _ _ h
      have h2 := hv_lt hc
      rw [List.length_cons, Nat.pow_succ, Nat.mul_comm (16 ^ r.length) 16, ← Nat.mul_assoc]
      exact Nat.lt_of_lt_of_le h1 (Nat.mul_le_mul_right _ (by omega))
theorem pu_lt {l : List UInt8} {v : Nat} (hl : l.length ≤ 16) (h : pu 0 l = some v) : v < 18446744073709551616 := by
  have h1 := pu_bd l 0 v h
  rw [Nat.zero_add, Nat.one_mul] at h1
  exact Nat.lt_of_lt_of_le h1 (Nat.pow_le_pow_right (by decide) hl : 16 ^ l.length ≤ 16 ^ 16)
theorem ext_len (s : ByteArray) (a : Nat) : (s.extract a (a + 16)).data.toList.length ≤ 16 := by
  rw [Lib.extract_data, List.length_take]; omega
theorem cw_bd {s : ByteArray} {x y : Nat} (h : cw s = some (x, y)) : x < 18446744073709551616 ∧ y < 18446744073709551616 := by
  by_cases hs : s.size = 33
  · unfold cw at h
    rw [if_pos hs] at h
    obtain ⟨h1, h2, _⟩ := cwOf_some h
    exact ⟨pu_lt (ext_len s 1) h1, pu_lt (ext_len s 17) h2⟩
  · unfold cw at h
    rw [if_neg hs] at h
    cases h
theorem cw_none {s : ByteArray} (h : ∀ x y, x < 18446744073709551616 → y < 18446744073709551616 → strOfNums (ctx x y) ≠ s) : cw s = none := by
  cases hc : cw s with
  | none => rfl
  | some p => exact absurd (cw_some hc) (h _ _ (cw_bd hc).1 (cw_bd hc).2)
/-- How a parse of a complex number ends. -/
def CP : Option (Nat × Nat) → Value
  | some (x, y) => .tuple #[.complex .f64 x y, .int .i64 0]
  | none => .tuple #[.complex .f64 0 0, .int .i64 20]
theorem spu_some {s : ByteArray} {v : Nat} (h0 : 0 < s.size) (hs : s.size ≤ 16) (hp : Hid (pu 0 s.data.toList = some v)) (w : World) (hl : LaidC w) : Calls Tryd.prog 33 #[.string s, .int .i64 16, .int .i64 64] w fun e w' => e = .returned (.tuple #[.int .u64 (v : Int), .nilIface]) ∧ Below w.heap.size w w' :=
  (spu_any s h0 hs w hl).mono fun e w' ⟨h1, hb⟩ => by
    rw [hp.out] at h1
    rcases h1 with ⟨v', h2, h3⟩ | ⟨h2, _⟩
    · injection h2 with h2; subst h2; exact ⟨h3, hb⟩
    · cases h2
theorem spu_none {s : ByteArray} (h0 : 0 < s.size) (hs : s.size ≤ 16) (hp : Hid (pu 0 s.data.toList = none)) (w : World) (hl : LaidC w) : Calls Tryd.prog 33 #[.string s, .int .i64 16, .int .i64 64] w fun e w' => (∃ x, e = .returned (.tuple #[.int .u64 0, .iface 80 (.pointer (some x))])) ∧ Below w.heap.size w w' :=
  (spu_any s h0 hs w hl).mono fun e w' ⟨h1, hb⟩ => by
    rw [hp.out] at h1
    rcases h1 with ⟨v', h2, h3⟩ | ⟨_, h2⟩
    · cases h2
    · exact ⟨h2, hb⟩
set_option maxHeartbeats 4000000 in
theorem cparse_any (s : ByteArray) (w : World) (hl : LaidC w) : Calls Tryd.prog 11 #[.string s] w fun e w' => e = .returned (CP (cw s)) ∧ Below w.heap.size w w' := by
  by_cases hs : s.size = 33
  · have z1 : (s.extract 1 17).size = 16 := by rw [ByteArray.size_extract]; omega
    have z2 : (s.extract 17 33).size = 16 := by rw [ByteArray.size_extract]; omega
    have hcw : cw s = cwOf s (pu 0 (s.extract 1 17).data.toList) (pu 0 (s.extract 17 33).data.toList) := by unfold cw; rw [if_pos hs]
    rw [hcw]
    clear hcw
    have q1 : 0 < (s.extract 1 17).size := by omega
    have q2 : (s.extract 1 17).size ≤ 16 := by omega
    have q3 : 0 < (s.extract 17 33).size := by omega
    have q4 : (s.extract 17 33).size ≤ 16 := by omega
    clear z1 z2
    rcases hp1 : pu 0 (s.extract 1 17).data.toList with _ | x <;> rcases hp2 : pu 0 (s.extract 17 33).data.toList with _ | y
    · have P1 := Lib.hid hp1
      have P2 := Lib.hid hp2
      clear hp1 hp2
      go_enter Tryd.func11, Tryd.ntmps11
      go_wp2_with (first | (go_at_call 33; first | ((with_reducible refine (spu_none q1 q2 P1 _ hl).mono ?_); rintro e w1 ⟨⟨x1, rfl⟩, hb1⟩) | ((with_reducible refine (spu_none q3 q4 P2 _ (hl.below hb1)).mono ?_); rintro e w2 ⟨⟨x2, rfl⟩, hb2⟩)))
      go_ret2
      exact ⟨rfl, below_step hb1 hb2⟩
    · have P1 := Lib.hid hp1
      have P2 := Lib.hid hp2
      clear hp1 hp2
      go_enter Tryd.func11, Tryd.ntmps11
      go_wp2_with (first | (go_at_call 33; first | ((with_reducible refine (spu_none q1 q2 P1 _ hl).mono ?_); rintro e w1 ⟨⟨x1, rfl⟩, hb1⟩) | ((with_reducible refine (spu_some q3 q4 P2 _ (hl.below hb1)).mono ?_); rintro e w2 ⟨rfl, hb2⟩)))
      go_ret2
      exact ⟨rfl, below_step hb1 hb2⟩
    · have P1 := Lib.hid hp1
      have P2 := Lib.hid hp2
      clear hp1 hp2
      go_enter Tryd.func11, Tryd.ntmps11
      go_wp2_with (first | (go_at_call 33; first | ((with_reducible refine (spu_some q1 q2 P1 _ hl).mono ?_); rintro e w1 ⟨rfl, hb1⟩) | ((with_reducible refine (spu_none q3 q4 P2 _ (hl.below hb1)).mono ?_); rintro e w2 ⟨⟨x2, rfl⟩, hb2⟩)))
      go_ret2
      exact ⟨rfl, below_step hb1 hb2⟩
    · have hx := pu_lt (ext_len s 1) hp1
      have hy := pu_lt (ext_len s 17) hp2
      have P1 := Lib.hid hp1
      have P2 := Lib.hid hp2
      clear hp1 hp2
      by_cases he : strOfNums (ctx x y) = s
      · have HE := Lib.hid he
        have hr : cwOf s (some x) (some y) = some (x, y) := by rw [cwOf, if_pos he]
        rw [hr]
        clear he hr
        go_enter Tryd.func11, Tryd.ntmps11
        go_wp2_with (first | (go_at_call 33; first | ((with_reducible refine (spu_some q1 q2 P1 _ hl).mono ?_); rintro e w1 ⟨rfl, hb1⟩) | ((with_reducible refine (spu_some q3 q4 P2 _ (hl.below hb1)).mono ?_); rintro e w2 ⟨rfl, hb2⟩)) | (go_at_call 9; refine (cprint_any x y hx hy _ ((hl.below hb1).below hb2).2).mono ?_; rw [HE.out]; rintro e w3 ⟨rfl, hb3⟩))
        go_ret2
        exact ⟨rfl, below_step (below_step hb1 hb2) hb3⟩
      · have HE : ((strOfNums (ctx x y)).toList == s.toList) = false := str_ne he
        have hr : cwOf s (some x) (some y) = none := by rw [cwOf, if_neg he]
        rw [hr]
        clear he hr
        go_enter Tryd.func11, Tryd.ntmps11
        go_wp2_with (first | (go_at_call 33; first | ((with_reducible refine (spu_some q1 q2 P1 _ hl).mono ?_); rintro e w1 ⟨rfl, hb1⟩) | ((with_reducible refine (spu_some q3 q4 P2 _ (hl.below hb1)).mono ?_); rintro e w2 ⟨rfl, hb2⟩)) | (go_at_call 9; refine (cprint_any x y hx hy _ ((hl.below hb1).below hb2).2).mono ?_; rintro e w3 ⟨rfl, hb3⟩))
        go_ret2
        exact ⟨rfl, below_step (below_step hb1 hb2) hb3⟩
  · have hcw : cw s = none := by unfold cw; rw [if_neg hs]
    rw [hcw]
    have h33 : ((s.size : Int) == 33) = false := by rw [beq_eq_false_iff_ne]; omega
    clear hcw hs
    go_enter Tryd.func11, Tryd.ntmps11
    go_wp2
    go_ret2
    exact ⟨rfl, Below.refl _ _⟩
end Go.Proofs.YtlfkachphpneiaaDoor
