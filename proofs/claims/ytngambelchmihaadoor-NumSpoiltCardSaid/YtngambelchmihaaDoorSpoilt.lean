/- NumSpoilt: for every integer and every way to spoil it, the call answers true. -/
import Derived.Test.YtngambelchmihaaDoorDoor1
import Derived.OpenShut
namespace Go.Proofs.YtngambelchmihaaDoor
open Go.RowKit Go.Proofs.YtngambelchmihaaDoorW.PrintWords

theorem parse_no {s : ByteArray} {m : Nat} (h : Hid (rdk s = false ∧ s.size = m)) (hm : m ≤ 140737488351232) (w : World) (hl : Laid w) :
    Calls Tryd.prog 8 #[.string s] w fun e w' => e = .returned (.tuple #[.int .i64 (rdv s), .bool false]) ∧ Below w.heap.size w w' := by
  have := parse_any s (by rw [h.out.2]; exact hm) w hl
  rwa [h.out.1] at this
theorem parse_yes {n : Int} (h : Hid (rdv (prt n) = n ∧ rdk (prt n) = true)) (hs : (prt n).size ≤ 140737488351232) (w : World) (hl : Laid w) :
    Calls Tryd.prog 8 #[.string (prt n)] w fun e w' => e = .returned (.tuple #[.int .i64 n, .bool true]) ∧ Below w.heap.size w w' := by
  have := parse_any _ hs w hl
  rwa [h.out.1, h.out.2] at this
set_option maxHeartbeats 4000000 in
theorem spoilt_walk (n k : Int) (w0 : (Lit.int .i64 n).wf = true) (w1 : (Lit.int .u8 k).wf = true) (w : World) (hl : Laid w) :
    Calls Tryd.prog 3 #[.int .i64 n, .int .u8 k] w fun e w' => e = .returned (.bool true) ∧ Below w.heap.size w w' := by
  obtain ⟨n1, n2⟩ := bounds_i64 w0
  obtain ⟨k1, k2⟩ := bounds_u8 w1
  have HP := Lib.hid (rd_prt n1 n2)
  have hsm := prt_small n1 n2
  have hs : (prt n).size ≤ 140737488351232 := prt_size n1 n2
  have z1 : ¬ 9223372036854775807 < 1 + (prt n).size := by omega
  have z2 : ¬ 9223372036854775807 < (prt n).size + 1 := by omega
  have F1 := Lib.hid (spoilt_front n 48 (by decide) (by decide))
  have F2 := Lib.hid (spoilt_front n 43 (by decide) (by decide))
  have F3 := Lib.hid (spoilt_front n 32 (by decide) (by decide))
  have F4 := Lib.hid (spoilt_behind n 32 (by decide))
  have F5 := Lib.hid (spoilt_behind n 120 (by decide))
  have hk : k % 5 = 0 ∨ k % 5 = 1 ∨ k % 5 = 2 ∨ k % 5 = 3 ∨ k % 5 = 4 := by omega
  rcases hk with hk | hk | hk | hk | hk
  all_goals
    go_enter Tryd.func3, Tryd.ntmps3
    go_wp2_with (first | (go_at_call 6; refine (known_any _).mono ?_; rintro e w1 ⟨rfl, hb1⟩) | (go_at_call 7; refine (print_any _ n1 n2 _).mono ?_; rintro e w2 ⟨rfl, hb2⟩))
    have hl3 := ((hl.below hb1).below hb2).below (below_alloc (Below.refl _ _) (.cells #[.string ({ data := #[48] } ++ prt n), .string ({ data := #[43] } ++ prt n), .string ({ data := #[32] } ++ prt n), .string (prt n ++ { data := #[32] }), .string (prt n ++ { data := #[120] })] 24))
    have hb9 := below_step (below_step hb1 hb2) (below_alloc (Below.refl _ _) (.cells #[.string ({ data := #[48] } ++ prt n), .string ({ data := #[43] } ++ prt n), .string ({ data := #[32] } ++ prt n), .string (prt n ++ { data := #[32] }), .string (prt n ++ { data := #[120] })] 24))
    first | ((with_reducible refine (parse_no F1 (by omega) _ hl3).mono ?_); rintro e w3 ⟨rfl, hb3⟩) | ((with_reducible refine (parse_no F2 (by omega) _ hl3).mono ?_); rintro e w3 ⟨rfl, hb3⟩) | ((with_reducible refine (parse_no F3 (by omega) _ hl3).mono ?_); rintro e w3 ⟨rfl, hb3⟩) | ((with_reducible refine (parse_no F4 (by omega) _ hl3).mono ?_); rintro e w3 ⟨rfl, hb3⟩) | ((with_reducible refine (parse_no F5 (by omega) _ hl3).mono ?_); rintro e w3 ⟨rfl, hb3⟩)
    go_wp2_with (first | (go_at_call 8; (with_reducible refine (parse_yes HP hs _ (hl3.below hb3)).mono ?_); rintro e w4 ⟨rfl, hb4⟩) | (go_at_call 9; refine (rem_zero _ _ rfl _).mono ?_; rintro e w' ⟨rfl, rfl⟩))
    go_ret
    exact ⟨rfl, below_step (below_step hb9 hb3) hb4⟩
end Go.Proofs.YtngambelchmihaaDoor
