/- cplx.Print and the reference's Print: thirty-three signs. -/
import Derived.Test.YtlfkachphpneiaaDoorRep
import Derived.Test.YtlfkachphpneiaaDoorCplxF
import Derived.Deep.RegionHeld3
namespace Go.Proofs.YtlfkachphpneiaaDoor
open Go.RowKit Go.Proofs.YtlfkachphpneiaaDoorW.PrintWords
attribute [local go_sem] run_tobits run_frombits

/-- A complex number's text. -/
def ctx (a b : Nat) : List Int := 99 :: (hk 16 a ++ hk 16 b)
theorem cbits_any (a b : Nat) (w : World) : Calls Tryd.prog 31 #[.complex .f64 a b] w fun e w' => e = .returned (.agg #[.int .u64 (a : Int), .int .u64 (b : Int)]) ∧ Below w.heap.size w w' := by
  go_enter Tryd.func31, Tryd.ntmps31
  go_wp2
  exact bodyPost_ret (v := .agg #[.int .u64 (a : Int), .int .u64 (b : Int)]) (by simp [results, Tryd.results31, go_sem]) rfl ⟨rfl, below_alloc (Below.refl _ _) _⟩
theorem cprint_any (a b : Nat) (ha : a < 18446744073709551616) (hb : b < 18446744073709551616) (w : World) (hT : Tab16 w) : Calls Tryd.prog 9 #[.complex .f64 a b] w fun e w' => e = .returned (.string (strOfNums (ctx a b))) ∧ Below w.heap.size w w' := by
  go_enter Tryd.func9, Tryd.ntmps9
  go_wp2_with (first | (go_at_call 31; refine (cbits_any _ _ _).mono ?_; rintro e w1 ⟨rfl, hb1⟩))
  have hz : ∀ x, (strOfNums (hk 16 x)).size = 16 := fun x => by rw [strOfNums_size, hk_length]
  have hb2 : Below w.heap.size w (w1.alloc (.cells #[.int .u64 (a : Int), .int .u64 (b : Int)] 48)) := below_alloc hb1 _
  obtain ⟨B, hB⟩ : ∃ B, B = w1.heap.size := ⟨_, rfl⟩
  have c0 : (w1.alloc (.cells #[.int .u64 (a : Int), .int .u64 (b : Int)] 48)).cell? ⟨B, 0, none⟩ = some (.int .u64 (a : Int)) := by subst hB; simp
  have c1 : (w1.alloc (.cells #[.int .u64 (a : Int), .int .u64 (b : Int)] 48)).cell? ⟨B, 1, none⟩ = some (.int .u64 (b : Int)) := by subst hB; simp
  rw [← hB]
  generalize w1.alloc (.cells #[.int .u64 (a : Int), .int .u64 (b : Int)] 48) = w2 at *
  have hT2 := hT.below hb2
  clear hB
  go_region_held3 (fun w' => w'.cell? ⟨B, 0, none⟩ = some (.int .u64 (a : Int)) ∧ w'.cell? ⟨B, 1, none⟩ = some (.int .u64 (b : Int)) ∧ Tab16 w') (first | exact ⟨c0, c1, hT2⟩ | exact ⟨pw_cell_below hb4 (pw_cell_below hb3 c0), pw_cell_below hb4 (pw_cell_below hb3 c1), hT4⟩ | exact ⟨pw_cell_below hb3 c0, pw_cell_below hb3 c1, hT3⟩ | assumption)
    (first | (go_at_call 32; (with_reducible refine (part_any a ha _ ?_).mono ?_); exact hT2; rintro e w3 ⟨rfl, hb3⟩; replace hb3 : Below w2.heap.size w2 w3 := (⟨hb3.os, hb3.tape, hb3.output, hb3.size, hb3.block⟩ : Below w2.heap.size w2 w3); have hT3 := hT2.below hb3) | (go_at_call 32; (with_reducible refine (part_any b hb _ ?_).mono ?_); exact hT3; rintro e w4 ⟨rfl, hb4⟩; replace hb4 : Below w3.heap.size w3 w4 := (⟨hb4.os, hb4.tape, hb4.output, hb4.size, hb4.block⟩ : Below w3.heap.size w3 w4); have hT4 := hT3.below hb4))
  go_wp2
  go_ret
  refine ⟨?_, below_step (below_step hb2 hb3) hb4⟩
  show Ending.returned (.string (strOfNums [99] ++ strOfNums (hk 16 a) ++ strOfNums (hk 16 b))) = _
  rw [strOfNums_append, strOfNums_append]
  rfl
theorem hk_more (i j n : Nat) : hk (j + 1) (n / 16 ^ i) = hk j (n / 16 ^ (i + 1)) ++ [hd (((n / 16 ^ i : Nat) : Int) % 16)] := by
  rw [hk, Nat.div_div_eq_div_mul, ← Nat.pow_succ]
abbrev hexSigns : ByteArray := { data := #[48, 49, 50, 51, 52, 53, 54, 55, 56, 57, 97, 98, 99, 100, 101, 102] }
theorem hex_at : ∀ d : Fin 16, hexSigns.extract d.val (d.val + 1) = strOfNums [hd (d.val : Int)] := by decide
theorem nib (n i : Nat) (hn : n < 18446744073709551616) : bits BinOp.and IntKind.u64 ((n : Int) / 2 ^ (4 * (i + 1) - 4)) 15 = ((n / 16 ^ i % 16 : Nat) : Int) := by
  have e : ((n : Int) / 2 ^ (4 * (i + 1) - 4)) = ((n / 16 ^ i : Nat) : Int) := by
    rw [show 4 * (i + 1) - 4 = 4 * i by omega, Int.pow_mul]
    push_cast
    rfl
  rw [e, and15 _ (Nat.lt_of_le_of_lt (Nat.div_le_self _ _) hn)]
  rfl
set_option maxHeartbeats 1000000 in
theorem rhex_any (s : ByteArray) (n : Nat) (hn : n < 18446744073709551616) (hs : s.size ≤ 100) (w : World) : Calls Tryd.prog 38 #[.string s, .int .u64 n] w fun e w' => e = .returned (.string (s ++ strOfNums (hk 16 n))) ∧ w = w' := by
  go_enter Tryd.func38, Tryd.ntmps38
  go_wp2
  go_loop [0, 5] (fun t k => ∃ i j : Nat, i + j = 16 ∧ k = .int .i64 (4 * (i : Int) - 4) ∧ t = .string (s ++ strOfNums (hk j (n / 16 ^ i)))) (fun _ k => (intOf k + 4).toNat)
  case atStart => exact ⟨16, 0, rfl, rfl, by rw [hk, show strOfNums [] = ByteArray.empty from rfl, ByteArray.append_empty]⟩
  case round =>
    obtain ⟨i, j, hij, rfl, rfl⟩ := hrel
    by_cases hi : i = 0
    · subst hi
      obtain rfl : j = 16 := by omega
      go_wp2
      go_ret
      exact ⟨by simp, rfl⟩
    · obtain ⟨i, rfl⟩ : ∃ i', i = i' + 1 := ⟨i - 1, by omega⟩
      obtain ⟨d, hd0⟩ : ∃ d, d = n / 16 ^ i % 16 := ⟨_, rfl⟩
      have hd16 : d < 16 := by rw [hd0]; exact Nat.mod_lt _ (by decide)
      have hnib := nib n i hn
      rw [← hd0] at hnib
      have HX := Lib.hid (hex_at ⟨d, hd16⟩)
      have HD := Lib.hid hd0
      have hz : (strOfNums (hk j (n / 16 ^ (i + 1)))).size = j := by rw [strOfNums_size, hk_length]
      have HZ := Lib.hid hz
      clear hd0
      have hov : ¬ 9223372036854775807 < s.size + j + (hexSigns.extract d (d + 1)).size := by rw [HX.out, strOfNums_size]; simp; omega
      go_wp2
      go_round
      case rel => exact ⟨i, j + 1, by omega, by go_num, by rw [hk_more, ← strOfNums_append, ← ByteArray.append_assoc, show ((n / 16 ^ i : Nat) : Int) % 16 = (d : Int) from by rw [HD.out]; rfl, ← HX.out]⟩
      case measure => simp [intOf]; omega
theorem rprint2_any (a b : Nat) (ha : a < 18446744073709551616) (hb : b < 18446744073709551616) (w : World) : Calls Tryd.prog 29 #[.complex .f64 a b] w fun e w' => e = .returned (.string (strOfNums (ctx a b))) ∧ w = w' := by
  have z1 : (ByteArray.mk #[99]).size ≤ 100 := by decide
  have z2 : (ByteArray.mk #[99] ++ strOfNums (hk 16 a)).size ≤ 100 := by rw [ByteArray.size_append, strOfNums_size, hk_length]; decide
  go_enter Tryd.func29, Tryd.ntmps29
  go_wp2_with (first | (go_at_call 37; refine (rbits_any _ _ _).mono ?_; rintro e w1 ⟨rfl, rfl⟩) | (go_at_call 38; first | ((with_reducible refine (rhex_any _ a ha z1 _).mono ?_); rintro e w1 ⟨rfl, rfl⟩) | ((with_reducible refine (rhex_any _ b hb z2 _).mono ?_); rintro e w1 ⟨rfl, rfl⟩)))
  go_ret
  refine ⟨?_, rfl⟩
  show Ending.returned (.string (strOfNums [99] ++ strOfNums (hk 16 a) ++ strOfNums (hk 16 b))) = _
  rw [strOfNums_append, strOfNums_append]
  rfl
end Go.Proofs.YtlfkachphpneiaaDoor
