/- strings.Repeat of "0", up to fifteen times; cplx.part. -/
import Derived.Test.YtlfkachphpneiaaDoorFmt16
namespace Go.Proofs.YtlfkachphpneiaaDoor
open Go.RowKit Go.Proofs.YtlfkachphpneiaaDoorW.PrintWords

abbrev nought : ByteArray := { data := #[48] }
theorem mul1 (c : Nat) (hc : c ≤ 15) (w : World) : Calls Tryd.prog 45 #[.int .u64 1, .int .u64 c] w fun e w' => e = .returned (.tuple #[.int .u64 0, .int .u64 c]) ∧ w = w' := by
  have e1 : bits BinOp.and IntKind.u64 1 4294967295 = 1 := by decide +kernel
  have e2 : bits BinOp.and IntKind.u64 (c : Int) 4294967295 = (c : Int) := by rw [and_low32 _ (by omega) (by omega), Int.emod_eq_of_lt (by omega) (by omega)]
  have e3 : (c : Int) / 4294967296 = 0 := by omega
  have e4 : bits BinOp.and IntKind.u64 0 4294967295 = 0 := by decide +kernel
  go_enter Tryd.func45, Tryd.ntmps45
  go_wp2
  go_ret2
  exact ⟨rfl, rfl⟩
theorem hasprefix (s : ByteArray) (b : Bool) (hs : 1 ≤ s.size) (h : Hid (((s.extract 0 1).toList == [48]) = b)) (w : World) : Calls Tryd.prog 46 #[.string s, .string nought] w fun e w' => e = .returned (.bool b) ∧ w = w' := by
  have h' := h.out
  clear h
  go_enter Tryd.func46, Tryd.ntmps46
  go_wp2
  go_ret
  exact ⟨rfl, rfl⟩
set_option maxRecDepth 100000 in
set_option maxHeartbeats 1000000 in
theorem repeat_any (c : Nat) (hc : c ≤ 15) (w : World) : Calls Tryd.prog 40 #[.string nought, .int .i64 c] w fun e w' => e = .returned (.string (strOfNums (List.replicate c 48))) ∧ w = w' := by
  by_cases h0 : c = 0
  · subst h0
    go_enter Tryd.func40, Tryd.ntmps40
    go_wp2
    go_ret
    exact ⟨rfl, rfl⟩
  by_cases h1 : c = 1
  · subst h1
    go_enter Tryd.func40, Tryd.ntmps40
    go_wp2
    go_ret
    exact ⟨rfl, rfl⟩
  have h2 : 2 ≤ c := by omega
  have g0 : ((c : Int) == 0) = false := by rw [beq_eq_false_iff_ne]; omega
  have g1 : ((c : Int) == 1) = false := by rw [beq_eq_false_iff_ne]; omega
  clear h0 h1
  go_enter Tryd.func40, Tryd.ntmps40
  go_wp2_with (first | (go_at_call 45; refine (mul1 c hc _).mono ?_; rintro e w' ⟨rfl, rfl⟩) | (go_at_call 46; first | (refine (hasprefix _ false ?_ ?_ _).mono ?_; decide +kernel; exact Lib.hid (by decide +kernel); rintro e w' ⟨rfl, rfl⟩) | (refine (hasprefix _ true ?_ ?_ _).mono ?_; decide +kernel; exact Lib.hid (by decide +kernel); rintro e w' ⟨rfl, rfl⟩)))
  go_ret
  have hcs : c = 2 ∨ c = 3 ∨ c = 4 ∨ c = 5 ∨ c = 6 ∨ c = 7 ∨ c = 8 ∨ c = 9 ∨ c = 10 ∨ c = 11 ∨ c = 12 ∨ c = 13 ∨ c = 14 ∨ c = 15 := by omega
  rcases hcs with h | h | h | h | h | h | h | h | h | h | h | h | h | h <;> subst h <;> exact ⟨rfl, rfl⟩
theorem strOfNums_append (xs ys : List Int) : strOfNums xs ++ strOfNums ys = strOfNums (xs ++ ys) := by
  apply ByteArray.ext
  rw [ByteArray.data_append]
  simp [strOfNums]
theorem strOfNums_size (xs : List Int) : (strOfNums xs).size = xs.length := by simp [strOfNums, ByteArray.size]
theorem part_any (n : Nat) (hn : n < 18446744073709551616) (w : World) (hT : Tab16 w) : Calls Tryd.prog 32 #[.int .u64 n] w fun e w' => e = .returned (.string (strOfNums (hk 16 n))) ∧ Below w.heap.size w w' := by
  obtain ⟨l1, l2, l3⟩ := hk_hx 15 n (by omega)
  have hz : (strOfNums (hx n)).size = (hx n).length := strOfNums_size _
  have hz2 : (strOfNums (List.replicate (16 - (hx n).length) 48)).size = 16 - (hx n).length := by rw [strOfNums_size, List.length_replicate]
  have hz3 : ¬ 9223372036854775807 < (strOfNums (List.replicate (16 - (hx n).length) 48)).size + (strOfNums (hx n)).size := by rw [hz, hz2]; omega
  have he : ((16 - (hx n).length : Nat) : Int) = 16 - ((strOfNums (hx n)).size : Int) := by rw [hz]; omega
  have hb0 : (strOfNums (hx n)).size ≤ 16 := by rw [hz]; omega
  have L3 := Lib.hid l3
  have HR := repeat_any (16 - (hx n).length) (by omega)
  have HE := Lib.hid he
  clear hz hz2 l3 he
  rw [HE.out] at HR
  have HR := Lib.hid HR
  go_enter Tryd.func32, Tryd.ntmps32
  go_wp2_with (first | (go_at_call 39; refine (formatuint16 n hn _ hT).mono ?_; rintro e w1 ⟨rfl, hb⟩) | (go_at_call 40; refine (HR.out _).mono ?_; rintro e w2 ⟨rfl, rfl⟩))
  go_ret
  exact ⟨by rw [← L3.out, ← strOfNums_append]; rfl, hb⟩
end Go.Proofs.YtlfkachphpneiaaDoor
