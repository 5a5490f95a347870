/- The walk of the reference's parse of an integer, and of its small functions. -/
import Derived.Test.YtngambelchmihaaDoorRef1
namespace Go.Proofs.YtngambelchmihaaDoor
open Go.RowKit Go.Proofs.YtngambelchmihaaDoorW.PrintWords

theorem rsub_any (a b : Int) (w : World) : Calls Tryd.prog 19 #[.int .i64 a, .int .i64 b] w fun e w' => e = .returned (.int .i64 (wrap64 (IntKind.u64.wrap (IntKind.u64.wrap a - IntKind.u64.wrap b)))) ∧ w = w' := by
  go_enter Tryd.func19, Tryd.ntmps19
  go_wp2
  go_ret
  exact ⟨rfl, rfl⟩
theorem wrap_u64 (x : Int) : wrap64 (IntKind.u64.wrap x) = wrap64 x := by rw [u64_wrap]; unfold wrap64; omega
theorem rsub_is {a b r : Int} (h : Hid (wrap64 (a - b) = r)) (w : World) : Calls Tryd.prog 19 #[.int .i64 a, .int .i64 b] w fun e w' => e = .returned (.int .i64 r) ∧ w = w' := by
  have e : wrap64 (IntKind.u64.wrap (IntKind.u64.wrap a - IntKind.u64.wrap b)) = r := by
    rw [← h.out, wrap_u64, u64_wrap, u64_wrap]
    apply wrap64_congr
    rw [← Int.sub_emod]
  have := rsub_any a b w
  rwa [e] at this
theorem drop_at (s : ByteArray) (k : Nat) (h : k < s.size) : s.data.toList.drop k = s[k] :: s.data.toList.drop (k + 1) := by
  rw [List.drop_eq_getElem_cons (by simpa using h)]
  rfl
set_option maxHeartbeats 2000000 in
theorem rparse_any (s : ByteArray) (hs : s.size ≤ 140737488351232) (w : World) :
    Calls Tryd.prog 17 #[.string s] w fun e w' => e = .returned (.tuple #[.int .i64 (rdv s), .bool (rdk s)]) ∧ Below w.heap.size w w' := by
  obtain ⟨b1, b2⟩ := rn_bd s
  have HT := Lib.hid (rn_tells s)
  go_enter Tryd.func17, Tryd.ntmps17
  go_wp2
  go_loop [4, 5] (fun u i => ∃ (k : Nat) (U : Int), k ≤ s.size ∧ i = .int .i64 k ∧ u = .int .u64 U ∧ ru U (s.data.toList.drop k) = ru 0 s.data.toList) (fun _ i => s.size - (intOf i).toNat)
  case atStart => exact ⟨0, 0, Nat.zero_le _, rfl, rfl, by simp⟩
  case round =>
    obtain ⟨k, U, hk, rfl, rfl, hU⟩ := hrel
    by_cases hlt : k < s.size
    · have hd := drop_at s k hlt
      rw [hd, ru] at hU
      have HU := Lib.hid hU
      clear hU hd
      have hby := (s[k]).toNat_lt
      by_cases hdg : 48 ≤ ((s[k]).toNat : Int) ∧ ((s[k]).toNat : Int) ≤ 57
      · obtain ⟨g1, g2⟩ := hdg
        go_wp2
        go_round
        case rel => exact ⟨k + 1, _, by omega, by go_num, rfl, by rw [← HU.out, if_pos ⟨g1, g2⟩]⟩
        case measure => simp [intOf]; omega
      · by_cases g1 : 48 ≤ ((s[k]).toNat : Int)
        · have g2 : ¬ ((s[k]).toNat : Int) ≤ 57 := fun h => hdg ⟨g1, h⟩
          go_wp2
          go_round
          case rel => exact ⟨k + 1, U, by omega, by go_num, rfl, by rw [← HU.out, if_neg (fun h => g2 h.2)]⟩
          case measure => simp [intOf]; omega
        · go_wp2
          go_round
          case rel => exact ⟨k + 1, U, by omega, by go_num, rfl, by rw [← HU.out, if_neg (fun h => g1 h.1)]⟩
          case measure => simp [intOf]; omega
    · have hkn : k = s.size := by omega
      have hU2 : U = ru 0 s.data.toList := by
        rw [← hU, List.drop_eq_nil_of_le (by rw [data_length]; omega)]
        rfl
      have HU := Lib.hid hU2
      clear hU hU2
      by_cases h0 : 0 < s.size
      · have hb0 : bt s 0 = (s[0]).toNat := by unfold bt; rw [dif_pos (show (0 : Int).toNat < s.size from h0)]; rfl
        have HB := Lib.hid hb0
        clear hb0
        by_cases h45 : ((s[0]).toNat : Int) = 45
        · have HN : Hid (wrap64 (0 - wrap64 U) = rn s) := Lib.hid (by rw [HU.out]; unfold rn; rw [if_pos ⟨h0, by rw [HB.out]; exact h45⟩])
          by_cases he : prt (rn s) = s
          · have HV := Lib.hid (HT.out.1 he)
            have HE := Lib.hid he
            clear he HU hk hlt
            go_wp2_with (first | (go_at_call 19; refine (rsub_is HN _).mono ?_; rintro e w' ⟨rfl, rfl⟩) | (go_at_call 24; refine (rprint_any _ b1 b2 _).mono ?_; rw [HE.out]; rintro e w2 ⟨rfl, hb2⟩))
            go_ret2
            exact ⟨by first | (rw [HV.out.1, HV.out.2]; done) | (rw [HV.out.1, HV.out.2]; rfl), hb2⟩
          · have HV := Lib.hid (HT.out.2 he)
            have HE : ((prt (rn s)).toList == s.toList) = false := str_ne he
            clear he HU hk hlt
            go_wp2_with (first | (go_at_call 19; refine (rsub_is HN _).mono ?_; rintro e w' ⟨rfl, rfl⟩) | (go_at_call 24; refine (rprint_any _ b1 b2 _).mono ?_; rintro e w2 ⟨rfl, hb2⟩))
            go_ret2
            exact ⟨by first | (rw [HV.out.1, HV.out.2]; done) | (rw [HV.out.1, HV.out.2]; rfl), hb2⟩
        · have hn : wrap64 U = rn s := by rw [HU.out]; unfold rn; rw [if_neg (by rintro ⟨_, h⟩; exact h45 (by rw [← HB.out]; exact h))]
          by_cases he : prt (rn s) = s
          · have HV := Lib.hid (HT.out.1 he)
            have HE := Lib.hid he
            clear he HU hk hlt
            go_wp2_with (first | (go_at_call 24; refine (rprint_any _ b1 b2 _).mono ?_; rw [HE.out]; rintro e w2 ⟨rfl, hb2⟩))
            go_ret2
            exact ⟨by first | (rw [HV.out.1, HV.out.2]; done) | (rw [HV.out.1, HV.out.2]; rfl), hb2⟩
          · have HV := Lib.hid (HT.out.2 he)
            have HE : ((prt (rn s)).toList == s.toList) = false := str_ne he
            clear he HU hk hlt
            go_wp2_with (first | (go_at_call 24; refine (rprint_any _ b1 b2 _).mono ?_; rintro e w2 ⟨rfl, hb2⟩))
            go_ret2
            exact ⟨by first | (rw [HV.out.1, HV.out.2]; done) | (rw [HV.out.1, HV.out.2]; rfl), hb2⟩
      · have hn : wrap64 U = rn s := by rw [HU.out]; unfold rn; rw [if_neg (by rintro ⟨h, _⟩; exact h0 h)]
        by_cases he : prt (rn s) = s
        · have HV := Lib.hid (HT.out.1 he)
          have HE := Lib.hid he
          clear he HU hk hlt
          go_wp2_with (first | (go_at_call 24; refine (rprint_any _ b1 b2 _).mono ?_; rw [HE.out]; rintro e w2 ⟨rfl, hb2⟩))
          go_ret2
          exact ⟨by first | (rw [HV.out.1, HV.out.2]; done) | (rw [HV.out.1, HV.out.2]; rfl), hb2⟩
        · have HV := Lib.hid (HT.out.2 he)
          have HE : ((prt (rn s)).toList == s.toList) = false := str_ne he
          clear he HU hk hlt
          go_wp2_with (first | (go_at_call 24; refine (rprint_any _ b1 b2 _).mono ?_; rintro e w2 ⟨rfl, hb2⟩))
          go_ret2
          exact ⟨by first | (rw [HV.out.1, HV.out.2]; done) | (rw [HV.out.1, HV.out.2]; rfl), hb2⟩
end Go.Proofs.YtngambelchmihaaDoor
