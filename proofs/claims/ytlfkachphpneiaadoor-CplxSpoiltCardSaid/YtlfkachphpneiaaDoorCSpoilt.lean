/- CplxSpoilt: for every two words and every way to spoil their text, the call answers true. -/
import Derived.Test.YtlfkachphpneiaaDoorCDoor
import Derived.OpenShut
namespace Go.Proofs.YtlfkachphpneiaaDoor
open Go.RowKit Go.Proofs.YtlfkachphpneiaaDoorW.PrintWords
attribute [local go_sem] run_tobits run_frombits

theorem cprint_is {a b : Nat} {s : ByteArray} (h : Hid (strOfNums (ctx a b) = s)) (ha : a < 18446744073709551616) (hb : b < 18446744073709551616) (w : World) (hT : Tab16 w) : Calls Tryd.prog 9 #[.complex .f64 a b] w fun e w' => e = .returned (.string s) ∧ Below w.heap.size w w' := by
  have := cprint_any a b ha hb w hT
  rwa [h.out] at this
theorem hk_small (k : Nat) : ∀ n : Nat, ∀ z ∈ hk k n, 48 ≤ z ∧ z < 103 := by
  induction k with
  | zero => intro n z hz; simp [hk] at hz
  | succ k ih =>
    intro n z hz
    rw [hk, List.mem_append, List.mem_singleton] at hz
    rcases hz with hz | rfl
    · exact ih _ z hz
    · unfold hd; split <;> omega
theorem list_at {s : ByteArray} {x y : Nat} (h : strOfNums (ctx x y) = s) (i : Nat) (hi : 0 < i) : s.data.toList[i]? ≠ some 103 := by
  rw [← h, ctx_list]
  obtain ⟨j, rfl⟩ : ∃ j, i = j + 1 := ⟨i - 1, by omega⟩
  rw [List.getElem?_cons_succ, ← List.map_append, List.getElem?_map]
  intro e
  rw [Option.map_eq_some_iff] at e
  obtain ⟨z, hz, e⟩ := e
  have hm := List.mem_of_getElem? hz
  have hz2 : 48 ≤ z ∧ z < 103 := by
    rw [List.mem_append] at hm
    rcases hm with hm | hm
    · exact hk_small _ _ z hm
    · exact hk_small _ _ z hm
  have e2 := congrArg UInt8.toNat e
  rw [UInt8.toNat_ofNat'] at e2
  have : (103 : UInt8).toNat = 103 := rfl
  omega
theorem cw_size {s : ByteArray} (h : s.size ≠ 33) : cw s = none := by unfold cw; rw [if_neg h]
theorem spoilt_g (s : ByteArray) (m : Nat) (h1 : 1 ≤ m) (h2 : m ≤ s.size) (r : ByteArray) : cw (s.extract 0 m ++ { data := #[103] } ++ r) = none := by
  apply cw_none
  intro x y _ _ e
  refine list_at e m h1 ?_
  have hl : ((s.extract 0 m).data.toList).length = m := by
    rw [Lib.extract_data, List.length_take, List.length_drop, Array.length_toList]
    have : s.data.size = s.size := rfl
    omega
  rw [ByteArray.data_append, ByteArray.data_append, Array.toList_append, Array.toList_append, List.append_assoc, List.getElem?_append_right (by omega), hl, Nat.sub_self]
  rfl
theorem spoilt_C (r : ByteArray) : cw ({ data := #[67] } ++ r) = none := by
  apply cw_none
  intro x y _ _ e
  have e2 := congrArg (fun z : ByteArray => z.data.toList[0]?) e
  simp only [ctx_list, ByteArray.data_append, Array.toList_append] at e2
  simp at e2
set_option maxHeartbeats 4000000 in
set_option maxRecDepth 10000 in
theorem cspoilt_walk (a b : Int) (k h : Int) (w0 : (Lit.int .u64 a).wf = true) (w1 : (Lit.int .u64 b).wf = true) (w2 : (Lit.int .u8 k).wf = true) (w3 : (Lit.int .u8 h).wf = true) (w : World) (hl : LaidC w) :
    Calls Tryd.prog 3 #[.int .u64 a, .int .u64 b, .int .u8 k, .int .u8 h] w fun e w' => e = .returned (.bool true) ∧ Below w.heap.size w w' := by
  obtain ⟨a1, a2⟩ := bounds_u64 w0
  obtain ⟨b1, b2⟩ := bounds_u64 w1
  obtain ⟨k1, k2⟩ := bounds_u8 w2
  obtain ⟨h1, h2⟩ := bounds_u8 w3
  obtain ⟨x, rfl⟩ := Int.eq_ofNat_of_zero_le a1
  obtain ⟨y, rfl⟩ := Int.eq_ofNat_of_zero_le b1
  have hx : x < 18446744073709551616 := by omega
  have hy : y < 18446744073709551616 := by omega
  clear w0 w1 w2 w3 a1 a2 b1 b2
  have HY := Lib.hid (cw_ok hx hy)
  have hss : (strOfNums (ctx x y)).size = 33 := ctx_size x y
  obtain ⟨s, HS⟩ : ∃ s, Hid (strOfNums (ctx x y) = s) := ⟨_, Lib.hid rfl⟩
  rw [HS.out] at HY hss
  have G1 := Lib.hid (spoilt_g s (k % 32 + 1).toNat (by omega) (by omega) (s.extract (k % 32 + 1 + 1).toNat 33))
  have G2 : Hid (cw (s ++ { data := #[48] }) = none) := Lib.hid (cw_size (by rw [ByteArray.size_append, hss]; decide))
  have G3 : Hid (cw (s.extract 0 (k % 32 + 1).toNat) = none) := Lib.hid (cw_size (by rw [ByteArray.size_extract]; omega))
  have G4 := Lib.hid (spoilt_C (s.extract 1 33))
  have hh : h % 4 = 0 ∨ h % 4 = 1 ∨ h % 4 = 2 ∨ h % 4 = 3 := by omega
  rcases hh with hh | hh | hh | hh
  all_goals
    go_enter Tryd.func3, Tryd.ntmps3
    go_wp2_with (first | (go_at_call 8; refine (known2_any _ hl).mono ?_; rintro e w1 ⟨rfl, hb1⟩) | (go_at_call 9; refine (cprint_is HS hx hy _ ?_).mono ?_; exact (hl.below hb1).2; rintro e w2 ⟨rfl, hb2⟩))
    go_region
    have hb3 := below_alloc (Below.refl w2.heap.size w2) (.cells #[.string (s.extract 0 (k % 32 + 1).toNat ++ { data := #[103] } ++ s.extract (k % 32 + 1 + 1).toNat 33), .string (s ++ { data := #[48] }), .string (s.extract 0 (k % 32 + 1).toNat), .string ({ data := #[67] } ++ s.extract 1 33)] 28)
    have hb9 := pw_below_drewN (below_step (below_step hb1 hb2) hb3) 1
    change Below w.heap.size w (World.drew (w2.alloc (.cells #[.string (s.extract 0 (k % 32 + 1).toNat ++ { data := #[103] } ++ s.extract (k % 32 + 1 + 1).toNat 33), .string (s ++ { data := #[48] }), .string (s.extract 0 (k % 32 + 1).toNat), .string ({ data := #[67] } ++ s.extract 1 33)] 28))) at hb9
    clear hb3
    obtain ⟨B, hB⟩ : ∃ B, B = w2.heap.size := ⟨_, rfl⟩
    have c0 : (World.drew (w2.alloc (.cells #[.string (s.extract 0 (k % 32 + 1).toNat ++ { data := #[103] } ++ s.extract (k % 32 + 1 + 1).toNat 33), .string (s ++ { data := #[48] }), .string (s.extract 0 (k % 32 + 1).toNat), .string ({ data := #[67] } ++ s.extract 1 33)] 28))).cell? ⟨B, 0, none⟩ = some (.string (s.extract 0 (k % 32 + 1).toNat ++ { data := #[103] } ++ s.extract (k % 32 + 1 + 1).toNat 33)) := by subst hB; simp
    have c1 : (World.drew (w2.alloc (.cells #[.string (s.extract 0 (k % 32 + 1).toNat ++ { data := #[103] } ++ s.extract (k % 32 + 1 + 1).toNat 33), .string (s ++ { data := #[48] }), .string (s.extract 0 (k % 32 + 1).toNat), .string ({ data := #[67] } ++ s.extract 1 33)] 28))).cell? ⟨B, 1, none⟩ = some (.string (s ++ { data := #[48] })) := by subst hB; simp
    have c2 : (World.drew (w2.alloc (.cells #[.string (s.extract 0 (k % 32 + 1).toNat ++ { data := #[103] } ++ s.extract (k % 32 + 1 + 1).toNat 33), .string (s ++ { data := #[48] }), .string (s.extract 0 (k % 32 + 1).toNat), .string ({ data := #[67] } ++ s.extract 1 33)] 28))).cell? ⟨B, 2, none⟩ = some (.string (s.extract 0 (k % 32 + 1).toNat)) := by subst hB; simp
    have c3 : (World.drew (w2.alloc (.cells #[.string (s.extract 0 (k % 32 + 1).toNat ++ { data := #[103] } ++ s.extract (k % 32 + 1 + 1).toNat 33), .string (s ++ { data := #[48] }), .string (s.extract 0 (k % 32 + 1).toNat), .string ({ data := #[67] } ++ s.extract 1 33)] 28))).cell? ⟨B, 3, none⟩ = some (.string ({ data := #[67] } ++ s.extract 1 33)) := by subst hB; simp
    rw [← hB]
    generalize World.drew (w2.alloc (.cells #[.string (s.extract 0 (k % 32 + 1).toNat ++ { data := #[103] } ++ s.extract (k % 32 + 1 + 1).toNat 33), .string (s ++ { data := #[48] }), .string (s.extract 0 (k % 32 + 1).toNat), .string ({ data := #[67] } ++ s.extract 1 33)] 28)) = w3 at *
    clear hB
    generalize (s.extract 0 (k % 32 + 1).toNat ++ { data := #[103] } ++ s.extract (k % 32 + 1 + 1).toNat 33) = b0 at *
    generalize (s ++ { data := #[48] }) = b1 at *
    generalize (s.extract 0 (k % 32 + 1).toNat) = b2 at *
    generalize (({ data := #[67] } : ByteArray) ++ s.extract 1 33) = b3 at *
    go_wp2_with (go_at_call 11; first | ((with_reducible refine (cparse_no G1 _ (hl.below hb9)).mono ?_); rintro e w4 ⟨rfl, hb4⟩) | ((with_reducible refine (cparse_no G2 _ (hl.below hb9)).mono ?_); rintro e w4 ⟨rfl, hb4⟩) | ((with_reducible refine (cparse_no G3 _ (hl.below hb9)).mono ?_); rintro e w4 ⟨rfl, hb4⟩) | ((with_reducible refine (cparse_no G4 _ (hl.below hb9)).mono ?_); rintro e w4 ⟨rfl, hb4⟩) | ((with_reducible refine (cparse_yes HY _ ((hl.below hb9).below hb4)).mono ?_); rintro e w5 ⟨rfl, hb5⟩))
    go_ret
    exact ⟨rfl, below_step (below_step hb9 hb4) hb5⟩
end Go.Proofs.YtlfkachphpneiaaDoor
