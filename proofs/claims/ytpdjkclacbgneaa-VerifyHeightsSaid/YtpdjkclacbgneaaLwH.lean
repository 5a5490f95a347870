/- VerifyHeights. -/
import Derived.Test.YtpdjkclacbgneaaLwL
import Derived.Test.YtpdjkclacbgneaaHgL
set_option linter.unusedVariables false
set_option linter.unusedSimpArgs false
namespace Go.Proofs.Ytpdjkclacbgneaa
open Go.RowKit Go.Shelf Go.Proofs.YtpdjkclacbgneaaW.PrintWords Go.Proofs.Ytpdjkclacbgneaa.Pl

theorem bool_at {w : World} {A : Option Addr} {n : Nat} {l : List Bool} (h : Kd.bool.C w A n l) {k : Nat} {b : Bool} (hk : l[k]? = some b) : ∃ ad, A = some ad ∧ w.cell? (ad.add k) = some (.bool b) := by
  have hl := (List.getElem?_eq_some_iff.1 hk).1
  obtain ⟨ad, e, hc⟩ := Kd.at_bool h (k : Int) (by omega) (by have := h.1; omega)
  refine ⟨ad, e, ?_⟩
  rw [Int.toNat_natCast, rdOf, Int.toNat_natCast, List.getD_eq_getElem?_getD, hk] at hc
  exact hc
theorem codeH_take {l : List Bool} {k : Nat} {b : Bool} (h : l[k]? = some b) : (l.take k).map inH ++ [inH b] = (l.take (k + 1)).map inH := by
  rw [List.take_add_one, h, List.map_append]
  rfl
set_option maxRecDepth 100000 in
set_option maxHeartbeats 2000000 in
theorem heights_walk (A : Option Addr) (len cap : Nat) (l : List Bool) (w : World) (hA : Kd.bool.C w A len l) : Calls Try.prog 3 #[.slice A len cap] w fun e w' => e = .returned (.bool true) ∧ Below w.heap.size w w' := by
  have HA := Aside0.mk hA
  have hlen := hA.1
  have hmax := hA.2.1
  clear hA
  go_enter Try.func3, Try.ntmps3
  go_wp2_with fail
  refine (known_any w).mono ?_
  rintro e1 w1 ⟨rfl, hb1⟩
  have B1 := Aside0.mk hb1
  clear hb1
  by_cases h30 : 30 < len
  · have h30z : (len : Int) > 30 := by omega
    go_wp2
    go_ret
    exact ⟨rfl, B1.out⟩
  have h30z : ¬ (len : Int) > 30 := by omega
  have HL := Aside0.mk (acc_H (l := l) (by omega))
  have HC1 := Aside0.mk (Kd.C_below HA.out B1.out)
  clear HA
  go_wp2_with fail
  go_loopw [3, 4, 5, 6] (fun s3 s4 s5 s6 wr => ∃ (kk : Nat) (n : Int) (g : Bool), kk ≤ len ∧ s6 = .int .i64 kk ∧ s4 = .int .i64 n ∧ s5 = .bool g ∧ Hid (cntH (l.take kk) = (n, g)) ∧ Aside0 (OwnIn w1.heap.size wr s3 ((l.take kk).map inH)) ∧ Aside0 (Below w1.heap.size w1 wr)) (fun _ _ _ s6 _ => len - (intOf s6).toNat)
  case atStart => exact ⟨0, 0, true, Nat.zero_le _, rfl, rfl, rfl, Lib.hid rfl, ⟨⟨rfl, .inl ⟨rfl, rfl⟩⟩⟩, ⟨Below.refl _ _⟩⟩
  case round =>
    obtain ⟨kk, n, g, hk, rfl, rfl, rfl, HQ, HO, BW⟩ := hrel
    have hk0 : (0 : Int) ≤ (kk : Int) := by omega
    have hbn := cnt_bound (l.take kk) (0, true)
    rw [show (l.take kk).foldl stepH (0, true) = cntH (l.take kk) from rfl, HQ.out] at hbn
    simp only [List.length_take] at hbn
    obtain ⟨hn1, hn2⟩ : -30 ≤ n ∧ n ≤ 30 := by omega
    clear hbn
    by_cases hlt : kk < len
    · have hltz : (kk : Int) < (len : Int) := by omega
      obtain ⟨b, hb⟩ : ∃ b, l[kk]? = some b := ⟨_, List.getElem?_eq_getElem (by omega)⟩
      obtain ⟨ad, hA, hcell⟩ := bool_at HC1.out hb
      subst hA
      have hcell := pw_cell_below BW.out hcell
      have hstep := cnt_step hb
      rw [HQ.out] at hstep
      have hct := codeH_take hb
      obtain ⟨v1, w2, E1, h2, h3⟩ := app_one (inH b).op HO.out BW.out.size (by simp; omega)
      have ha : (⟨(inH b).op, 0⟩ : In) = inH b := by cases b <;> rfl
      rw [ha, hct] at h2
      have H2 := Aside0.mk h2
      have B2 := Aside0.mk (BW.out.trans h3)
      have HS := Lib.hid hstep
      have HLT := Lib.hid hlt
      clear h2 h3 hlt hstep hct ha hb HQ HO
      have fin : ∀ (n1 : Int) (g1 : Bool), stepH (n, g) b = (n1, g1) → ∃ (kk' : Nat) (n' : Int) (g' : Bool), kk' ≤ len ∧ Value.int .i64 ((kk : Int) + 1) = .int .i64 kk' ∧ Value.int .i64 n1 = .int .i64 n' ∧ Value.bool g1 = .bool g' ∧ Hid (cntH (l.take kk') = (n', g')) ∧ Aside0 (OwnIn w1.heap.size w2 v1 ((l.take kk').map inH)) ∧ Aside0 (Below w1.heap.size w1 w2) := fun n1 g1 he =>
        ⟨kk + 1, n1, g1, HLT.out, rfl, rfl, rfl, Lib.hid (by rw [HS.out, he]), H2, B2⟩
      have FIN := Aside0.mk fin
      clear fin
      cases b
      · have hs1 : stepH (n, g) false = (n - 1, g && decide (0 ≤ n - 1) && decide (n - 1 ≤ 3)) := rfl
        rcases (by omega : n - 1 < 0 ∨ (0 ≤ n - 1 ∧ n - 1 ≤ 3) ∨ 3 < n - 1) with p0 | ⟨p0, p3⟩ | p3
        all_goals cases g
        all_goals
          have HS1 := Lib.hid hs1
          clear hs1
          go_wp2_with (at_builtin; refine wpList_append_E rfl _ _ _ rfl rfl rfl E1 ?_)
          clear E1
          go_wp2
          go_roundw
          case rel => exact FIN.out (n - 1) _ (by rw [HS1.out]; simp <;> omega)
          case measure => have := HLT.out; simp [intOf]; omega
      · have hs1 : stepH (n, g) true = (n + 1, g && decide (0 ≤ n + 1) && decide (n + 1 ≤ 3)) := rfl
        rcases (by omega : n + 1 < 0 ∨ (0 ≤ n + 1 ∧ n + 1 ≤ 3) ∨ 3 < n + 1) with p0 | ⟨p0, p3⟩ | p3
        all_goals cases g
        all_goals
          have HS1 := Lib.hid hs1
          clear hs1
          go_wp2_with (at_builtin; refine wpList_append_E rfl _ _ _ rfl rfl rfl E1 ?_)
          clear E1
          go_wp2
          go_roundw
          case rel => exact FIN.out (n + 1) _ (by rw [HS1.out]; simp <;> omega)
          case measure => have := HLT.out; simp [intOf]; omega
    · have hltz : ¬ (kk : Int) < (len : Int) := by omega
      have hkl : kk = len := by omega
      have hq := HQ.out
      have hO := HO.out
      rw [hkl, List.take_of_length_le (by omega)] at hq hO
      have hg : Hid (goodH 0 l = g) := Lib.hid (by rw [← cnt_is, hq])
      obtain ⟨v1, w2, E1, h2, h3⟩ := app_one 33 hO BW.out.size (by simp; omega)
      have AC := Aside0.mk (accepted_own (code := codeH l) HL.out.1 HL.out.2 h2)
      have B2 := Aside0.mk (bthen B1.out (BW.out.trans h3))
      clear h2 h3 hlt hk HO BW hq hO HQ hn1 hn2 hkl
      go_wp2_with (at_builtin; refine wpList_append_E rfl _ _ _ rfl rfl rfl E1 ?_)
      refine AC.out.mono ?_
      rintro e3 w3 ⟨rfl, hb3⟩
      have B3 := Aside0.mk (bthen B2.out hb3)
      clear E1 hb3
      rw [hg.out]
      go_wp2
      go_ret
      refine ⟨?_, B3.out⟩
      cases g <;> rfl
end Go.Proofs.Ytpdjkclacbgneaa
