/- num.Parse: what it answers, for every text. -/
import Derived.Test.YtngambelchmihaaDoorNumF
import Derived.Test.YtngambelchmihaaDoorShelf
import Derived.WalkSmall
namespace Go.Proofs.YtngambelchmihaaDoor
open Go.RowKit Go.Proofs.YtngambelchmihaaDoorW.PrintWords

/-- The two sentinels of strconv hold something that is no nil. -/
def Laid (w : World) : Prop := (∃ t p, w.var? Tryd.prog "strconv.ErrSyntax" = some #[.iface t p]) ∧ ∃ t p, w.var? Tryd.prog "strconv.ErrRange" = some #[.iface t p]
theorem var_lt {P : Program} {w : World} {n : String} {cs : Array Value} (h : w.var? P n = some cs) : ∃ g, P.globalNamed n = some g ∧ g < w.heap.size := by
  unfold World.var? at h
  obtain ⟨g, hg, hc⟩ := Option.bind_eq_some_iff.1 h
  refine ⟨g, hg, ?_⟩
  rcases Nat.lt_or_ge g w.heap.size with h' | h'
  · exact h'
  · rw [Array.getElem?_eq_none h'] at hc
    cases hc
theorem Laid.below {w w' : World} (h : Laid w) (hb : Below w.heap.size w w') : Laid w' := by
  obtain ⟨⟨t1, p1, l1⟩, t2, p2, l2⟩ := h
  obtain ⟨g1, e1, b1⟩ := var_lt l1
  obtain ⟨g2, e2, b2⟩ := var_lt l2
  exact ⟨⟨t1, p1, var?_below hb e1 b1 l1⟩, t2, p2, var?_below hb e2 b2 l2⟩
/-- strconv's parse of a text that is no number, or too great: an error that is no nil. -/
theorem parseint_bad (s : ByteArray) (hs : s.size ≤ 140737488351232) (w : World) (hl : Laid w) (h : ∀ v, Lib.parseIntB 64 s.data.toList ≠ .ok v) :
    Calls Tryd.prog 25 #[.string s, .int .i64 10, .int .i64 64] w fun e w' => (∃ n x, e = .returned (.tuple #[.int .i64 n, .iface 49 (.pointer (some x))])) ∧ Below w.heap.size w w' := by
  obtain ⟨⟨t1, p1, l1⟩, t2, p2, l2⟩ := hl
  cases hp : Lib.parseIntB 64 s.data.toList with
  | ok v => exact absurd hp (h v)
  | range => exact (Any.strconv_ParseInt_10_at64_range_var Tryd.laysC174 s (by omega) hp t2 p2 w l2).mono fun e w' ⟨N, he, _, _, hb⟩ => ⟨⟨_, _, he⟩, hb⟩
  | _ => exact (Any.strconv_ParseInt_10_at64_syntax_var Tryd.laysC174 s (by omega) hp t1 p1 w l1).mono fun e w' ⟨N, he, _, _, hb⟩ => ⟨⟨_, _, he⟩, hb⟩
theorem parseint_ok (s : ByteArray) (hs : s.size ≤ 140737488351232) (w : World) (v : Int) (h : Hid (Lib.parseIntB 64 s.data.toList = .ok v)) :
    Calls Tryd.prog 25 #[.string s, .int .i64 10, .int .i64 64] w fun e w' => e = .returned (.tuple #[.int .i64 v, .nilIface]) ∧ Below w.heap.size w w' :=
  (Any.strconv_ParseInt_10_at64_ok Tryd.laysC174 s (by omega) v h.out w).mono fun e w' ⟨he, hw⟩ => ⟨he, by
    rcases hw with rfl | ⟨t, rfl⟩
    · exact Below.refl _ _
    · exact bytes_below (Below.refl _ _) (Nat.le_refl _) _ _⟩
set_option maxHeartbeats 2000000 in
theorem parse_any (s : ByteArray) (hs : s.size ≤ 140737488351232) (w : World) (hl : Laid w) :
    Calls Tryd.prog 8 #[.string s] w fun e w' => e = .returned (.tuple #[.int .i64 (rdv s), .bool (rdk s)]) ∧ Below w.heap.size w w' := by
  by_cases hk : ∃ v, Lib.parseIntB 64 s.data.toList = .ok v
  · obtain ⟨v, hp⟩ := hk
    obtain ⟨v1, v2⟩ := Lib.parseIntB_bounds hp
    have hv1 : -9223372036854775808 ≤ v := by simpa using v1
    have hv2 : v ≤ 9223372036854775807 := by
      have h3 : v < 9223372036854775808 := by simpa using v2
      omega
    have hv : rdv s = (if prt v = s then v else 0) ∧ rdk s = decide (prt v = s) := by unfold rdv rdk; rw [hp]; simp
    by_cases he : prt v = s
    · rw [hv.1, hv.2, if_pos he, decide_eq_true he]
      have H := Lib.hid hp
      have HE := Lib.hid he
      clear hp hv he v1 v2 hl
      go_enter Tryd.func8, Tryd.ntmps8
      go_wp2_with (first | (go_at_call 25; refine (parseint_ok s hs _ v H).mono ?_; rintro e w1 ⟨rfl, hb1⟩) | (go_at_call 7; refine (print_any v hv1 hv2 _).mono ?_; rw [HE.out]; rintro e w2 ⟨rfl, hb2⟩))
      go_ret2
      exact ⟨rfl, below_step hb1 hb2⟩
    · rw [hv.1, hv.2, if_neg he, decide_eq_false he]
      have H := Lib.hid hp
      have HE : ((prt v).toList == s.toList) = false := str_ne he
      clear hp hv he v1 v2 hl
      go_enter Tryd.func8, Tryd.ntmps8
      go_wp2_with (first | (go_at_call 25; refine (parseint_ok s hs _ v H).mono ?_; rintro e w1 ⟨rfl, hb1⟩) | (go_at_call 7; refine (print_any v hv1 hv2 _).mono ?_; rintro e w2 ⟨rfl, hb2⟩))
      go_ret2
      exact ⟨rfl, below_step hb1 hb2⟩
  · have h : Hid (∀ v, Lib.parseIntB 64 s.data.toList ≠ .ok v) := Lib.hid fun v hv => hk ⟨v, hv⟩
    have hv : rdv s = 0 ∧ rdk s = false := by
      unfold rdv rdk
      cases hp : Lib.parseIntB 64 s.data.toList with
      | ok v => exact absurd hp (h.out v)
      | _ => simp
    rw [hv.1, hv.2]
    clear hv hk
    go_enter Tryd.func8, Tryd.ntmps8
    go_wp2_with (go_at_call 25; refine (parseint_bad s hs _ hl h.out).mono ?_; rintro e w' ⟨⟨n, x, rfl⟩, hb⟩)
    go_ret2
    exact ⟨rfl, hb⟩
end Go.Proofs.YtngambelchmihaaDoor
