/- CplxTells, with some part that is no number: the call answers true. -/
import Derived.Test.YtlfkachphpneiaaDoorCTellsL
namespace Go.Proofs.YtlfkachphpneiaaDoor
open Go.RowKit Go.Proofs.YtlfkachphpneiaaDoorW.PrintWords
attribute [local go_sem] run_tobits run_frombits

set_option maxHeartbeats 8000000 in
theorem ctells_B (x y : Nat) (hx : x < 18446744073709551616) (hy : y < 18446744073709551616) (c d : Int) (s : ByteArray) (z1 z2 : Nat) (er : Int) (HC : Hid (CP (cw s) = .tuple #[.complex .f64 z1 z2, .int .i64 er])) (HN : Hid ((nan x || nan y) = true)) (hs : s.size ≤ 140737488351232) (w : World) (hl : LaidC w) :
    Calls Tryd.prog 6 #[.int .u64 (x : Int), .int .u64 (y : Int), .int .u64 c, .int .u64 d, .string s] w fun e w' => e = .returned (.bool true) ∧ Below w.heap.size w w' := by
  by_cases hlong : 100 < s.size
  · go_enter Tryd.func6, Tryd.ntmps6
    go_wp2_with (first | (go_at_call 8; refine (known2_any _ hl).mono ?_; rintro e w1 ⟨rfl, hb1⟩))
    go_ret
    exact ⟨rfl, hb1⟩
  go_enter Tryd.func6, Tryd.ntmps6
  go_wp2_with (first | (go_at_call 8; refine (known2_any _ hl).mono ?_; rintro e w1 ⟨rfl, hb1⟩) | (go_at_call 18; refine (rof_any _ _ _).mono ?_; rintro e w2 ⟨rfl, rfl⟩) | (go_at_call 17; refine (cnorm_any _ _ _).mono ?_; rintro e w2 ⟨n, t1, hn, rfl, rfl⟩) | (go_at_call 19; refine (rnorm_any _ _ _).mono ?_; rintro e w2 ⟨m, t2, hm, rfl, rfl⟩))
  have hA := norm_show (alk_norm hn hm)
  obtain ⟨L, HL⟩ : ∃ L, Hid ((alk x c.toNat && alk y d.toNat) = L) := ⟨_, Lib.hid rfl⟩
  clear hn hm
  rcases hA with hA | ⟨hA, hB, hC⟩
  all_goals
    go_wp2_with (first | (go_at_call 11; (with_reducible refine (cparse_is HC _ ?_).mono ?_); exact hl.below (drawn_below hb1 _); rintro e w2 ⟨rfl, hb2⟩) | (go_at_call 20; (with_reducible refine (rcparse_is HC _).mono ?_); rintro e w3 ⟨rfl, t3, rfl⟩) | (go_at_call 22; refine (cadd_any _ _ _ _ _).mono ?_; rintro e w4 ⟨p1, q1, n1, hR1, rfl, rfl⟩) | (go_at_call 23; refine (radd_any _ _ _ _ _).mono ?_; rintro e w4 ⟨r1, s1, m1, hS1, rfl, rfl⟩; have hA1 := Lib.hid (alk_add hR1 hS1)) | (go_at_call 16; refine (csub_any _ _ _ _ _).mono ?_; rintro e w4 ⟨p2, q2, n2, hR2, rfl, rfl⟩) | (go_at_call 24; refine (rsub_any _ _ _ _ _).mono ?_; rintro e w4 ⟨r2, s2, m2, hS2, rfl, rfl⟩; have hA2 := Lib.hid (alk_sub hR2 hS2)) | (go_at_call 15; refine (cmul_any _ _ _ _ _).mono ?_; rintro e w4 ⟨p3, q3, n3, hR3, rfl, rfl⟩) | (go_at_call 25; refine (rmul_any _ _ _ _ _).mono ?_; rintro e w4 ⟨r3, s3, m3, hS3, rfl, rfl⟩; have hA3 := Lib.hid (alk_mul hR3 hS3)) | (go_at_call 21; first | ((with_reducible refine (ralike_is hA1 _).mono ?_); rintro e w4 ⟨rfl, rfl⟩) | ((with_reducible refine (ralike_is hA2 _).mono ?_); rintro e w4 ⟨rfl, rfl⟩) | ((with_reducible refine (ralike_is hA3 _).mono ?_); rintro e w4 ⟨rfl, rfl⟩) | ((with_reducible refine (ralike_is HL _).mono ?_); rintro e w4 ⟨rfl, rfl⟩)) | (go_at_call 13; refine (same_is HL _).mono ?_; rintro e w4 ⟨rfl, rfl⟩) | (go_at_call 26; refine (rnan_is HN _).mono ?_; rintro e w4 ⟨rfl, rfl⟩) | (go_at_call 14; refine (cconj_any _ _ _).mono ?_; rintro e w4 ⟨rfl, rfl⟩) | (go_at_call 28; refine (rconj_any _ _ _).mono ?_; rintro e w4 ⟨rfl, rfl⟩) | (go_at_call 27; refine (rsame_yes _ _ _ _ rfl rfl _).mono ?_; rintro e w4 ⟨rfl, rfl⟩) | (go_at_call 9; refine (cprint_any _ _ hx hy _ ?_).mono ?_; exact ((hl.below (drawn_below hb1 _)).below (drawn_below hb2 _)).2; rintro e w5 ⟨rfl, hb5⟩) | (go_at_call 29; refine (rprint2_any _ _ hx hy _).mono ?_; rintro e w6 ⟨rfl, rfl⟩))
  all_goals first
    | (exfalso
       have hq : some undef = some (Value.bool _) := by assumption
       simp [undef] at hq
       done)
    | (go_ret
       exact ⟨rfl, below_step (below_step (drawn_below hb1 _) (drawn_below hb2 _)) hb5⟩)
end Go.Proofs.YtlfkachphpneiaaDoor
