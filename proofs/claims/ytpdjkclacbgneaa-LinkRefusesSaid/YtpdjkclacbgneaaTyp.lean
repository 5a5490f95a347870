/- types: Sub, Common, Fits, refers, Words; slices.Index, Contains at strings. -/
import Derived.Test.YtpdjkclacbgneaaMem
set_option linter.unusedVariables false
set_option linter.unusedSimpArgs false
namespace Go.Proofs.Ytpdjkclacbgneaa
open Go.RowKit Go.Shelf Go.Proofs.YtpdjkclacbgneaaW.PrintWords Go.Proofs.Ytpdjkclacbgneaa.Pl

set_option maxHeartbeats 400000 in
set_option maxRecDepth 10000 in
theorem indexStr_any (l : List Nm) (A : Option Addr) (c : Nat) (v : Nm) (w : World) (hl : Kd.string.C w A l.length l) :
    Calls Try.prog 56 #[.slice A l.length c, .string v] w fun e w' => e = .returned (.int .i64 (idxB (fun j => decide (v = l.getD j ByteArray.empty)) l.length)) ∧ Below w.heap.size w w' := by
  obtain ⟨n, hn⟩ : ∃ n, l.length = n := ⟨_, rfl⟩
  rw [hn] at hl ⊢
  have HN := Lib.hid hn
  have hbig := hl.2.1
  obtain ⟨r, hr⟩ : ∃ r, idxB (fun j => decide (v = l.getD j ByteArray.empty)) n = r := ⟨_, rfl⟩
  rw [hr]
  have HR := Lib.hid hr
  clear hn hr
  go_enter Try.func56, Try.ntmps56
  go_wp2
  go_loopw [8] (fun s8 wr => ∃ kk : Nat, kk ≤ n ∧ s8 = .int .i64 kk ∧ Aside0 (Below w.heap.size w wr) ∧ Aside0 (∀ j, j < kk → decide (v = l.getD j ByteArray.empty) = false)) (fun s _ => n - (intOf s).toNat)
  case atStart => exact ⟨0, Nat.zero_le _, rfl, ⟨Below.refl _ w⟩, ⟨fun j hj => absurd hj (Nat.not_lt_zero _)⟩⟩
  case round =>
    obtain ⟨kk, hkk, rfl, BW, HA⟩ := hrel
    by_cases hlt : kk < n
    · have hltz : (kk : Int) < (n : Int) := by omega
      obtain ⟨x, hx⟩ : ∃ x, l[kk]? = some x := ⟨l[kk]'(by have := HN.out; omega), List.getElem?_eq_getElem _⟩
      obtain ⟨ad, rfl, l0⟩ := at_str (Kd.C_below hl BW.out) hx
      have hgd : l.getD kk ByteArray.empty = x := by rw [List.getD_eq_getElem?_getD, hx]; rfl
      have HG := Lib.hid hgd
      clear hx hgd
      by_cases hv : v = x
      · have HI : Hid (r = (kk : Int)) := Lib.hid (by rw [← HR.out]; exact idxB_hit hlt HA.out (by rw [HG.out]; exact decide_eq_true hv))
        have e1 := str_eq hv
        clear hv
        go_wp2
        go_ret
        exact ⟨by rw [HI.out]; rfl, BW.out⟩
      · have e1 := str_ne hv
        have HA2 : Aside0 (∀ j, j < kk + 1 → decide (v = l.getD j ByteArray.empty) = false) := ⟨fun j hj => by
          by_cases e : j = kk
          · subst e
            rw [HG.out]
            exact decide_eq_false hv
          · exact HA.out j (by omega)⟩
        go_wp2
        go_roundw
        case rel => exact ⟨kk + 1, by omega, by go_num, BW, HA2⟩
        case measure => simp [intOf]; omega
    · have hltz : ¬ (kk : Int) < (n : Int) := by omega
      have hk : kk = n := by omega
      subst hk
      have HI : Hid (r = -1) := Lib.hid (by rw [← HR.out]; exact idxB_miss HA.out)
      go_wp2
      go_ret
      exact ⟨by rw [HI.out]; rfl, BW.out⟩
set_option maxHeartbeats 400000 in
theorem containsStr_any (l : List Nm) (A : Option Addr) (c : Nat) (v : Nm) (w : World) (hl : Kd.string.C w A l.length l) :
    Calls Try.prog 145 #[.slice A l.length c, .string v] w fun e w' => e = .returned (.bool (l.any fun n => decide (n = v))) ∧ Below w.heap.size w w' := by
  have h1 : decide (0 ≤ idxB (fun j => decide (v = l.getD j ByteArray.empty)) l.length) = l.any fun n => decide (n = v) := by
    have h2 := anyB_list (fun n => decide (v = n)) ByteArray.empty l
    unfold anyB at h2
    rw [h2]
    congr 1
    funext n
    rw [decide_eq_decide]
    exact eq_comm
  rw [← h1]
  generalize hi : idxB (fun j => decide (v = l.getD j ByteArray.empty)) l.length = i
  go_enter Try.func145, Try.ntmps145
  go_wp2_with fail
  refine (indexStr_any l A c v w hl).mono ?_
  rintro e w' ⟨rfl, hb⟩
  rw [hi]
  go_wp2
  go_ret
  exact ⟨rfl, hb⟩
set_option maxHeartbeats 400000 in
theorem sub_any (g : Nat) (h : Hier) (a b : Nm) (w : World) (H : HierIs w g h) (hg : Good h) :
    Calls Try.prog 130 #[.pointer (some ⟨g, 0, none⟩), .string a, .string b] w fun e w' => e = .returned (.bool (subB h a b)) ∧ Below w.heap.size w w' := by
  have HH := Aside0.mk H
  clear H
  go_enter Try.func130, Try.ntmps130
  go_wp2_with fail
  refine (ancestors_any g h a _ HH.out (hg a)).mono ?_
  rintro e w1 ⟨v, rfl, hrow, hb⟩
  obtain ⟨A, c, rfl, hc, hC⟩ := Kd.R_reads hrow
  have HS : Hid ((ancestors h a).any (fun n => decide (n = b)) = subB h a b) := Lib.hid rfl
  clear hrow hc
  go_wp2_with fail
  refine (containsStr_any (ancestors h a) A c b _ hC).mono ?_
  rintro e w2 ⟨rfl, hb2⟩
  rw [HS.out]
  go_wp2
  go_ret
  exact ⟨rfl, bthen hb hb2⟩
theorem sub_is {g : Nat} {h : Hier} {a b : Nm} {w : World} (H : HierIs w g h) (hg : Good h) {q : Bool} (hq : subB h a b = q) :
    Calls Try.prog 130 #[.pointer (some ⟨g, 0, none⟩), .string a, .string b] w fun e w' => e = .returned (.bool q) ∧ Below w.heap.size w w' := by
  have := sub_any g h a b w H hg
  rwa [hq] at this
theorem find_at {p : Nm → Bool} : ∀ {l : List Nm} {k : Nat} {x : Nm}, l[k]? = some x → p x = true → (l.take k).find? p = none → l.find? p = some x
  | [], j, x, hx, _, _ => by simp at hx
  | y :: r, 0, x, hx, hp, _ => by
    have : y = x := by simpa using hx
    subst this
    simp [hp]
  | y :: r, j + 1, x, hx, hp, hf => by
    rw [List.take_succ_cons, List.find?_cons] at hf
    split at hf
    · cases hf
    · rename_i hy
      rw [List.find?_cons, hy]
      exact find_at (by simpa using hx) hp hf
set_option maxHeartbeats 400000 in
set_option maxRecDepth 10000 in
theorem common_any (g : Nat) (h : Hier) (a b : Nm) (w : World) (H : HierIs w g h) (hg : Good h) :
    Calls Try.prog 105 #[.pointer (some ⟨g, 0, none⟩), .string a, .string b] w fun e w' => e = .returned (.string (common h a b)) ∧ Below w.heap.size w w' := by
  have HH := Aside0.mk H
  have HG := Aside0.mk hg
  clear H hg
  have HU : Hid (common h a b = ((ancestors h a).find? fun n => subB h b n).getD Pl.nil) := Lib.hid rfl
  generalize common h a b = res at *
  go_enter Try.func105, Try.ntmps105
  go_wp2_with fail
  refine (ancestors_any g h a _ HH.out (HG.out a)).mono ?_
  rintro e w1 ⟨v, rfl, hrow, hb⟩
  obtain ⟨A, c, rfl, hc, hC⟩ := Kd.R_reads hrow
  obtain ⟨l, hl⟩ : ∃ l, ancestors h a = l := ⟨_, rfl⟩
  rw [hl] at hC HU ⊢
  clear hrow hc hl
  obtain ⟨n, hn⟩ : ∃ n, l.length = n := ⟨_, rfl⟩
  rw [hn] at hC ⊢
  have HN := Lib.hid hn
  have hbig := hC.2.1
  clear hn
  go_wp2
  go_loopw [13] (fun s13 wr => ∃ kk : Nat, kk ≤ n ∧ s13 = .int .i64 kk ∧ Aside0 (Below w1.heap.size w1 wr) ∧ Aside0 ((l.take kk).find? (fun n => subB h b n) = none)) (fun s _ => n - (intOf s).toNat)
  case atStart => exact ⟨0, Nat.zero_le _, rfl, ⟨Below.refl _ _⟩, ⟨by simp⟩⟩
  case round =>
    obtain ⟨kk, hkk, rfl, BW, HA⟩ := hrel
    by_cases hlt : kk < n
    · have hltz : (kk : Int) < (n : Int) := by omega
      obtain ⟨x, hx⟩ : ∃ x, l[kk]? = some x := ⟨l[kk]'(by have := HN.out; omega), List.getElem?_eq_getElem _⟩
      obtain ⟨ad, rfl, l0⟩ := at_str (Kd.C_below hC BW.out) hx
      have HX := Aside0.mk hx
      clear hx
      rcases hq : subB h b x with _ | _
      · have HQ := Aside0.mk hq
        have HA2 : Aside0 ((l.take (kk + 1)).find? (fun n => subB h b n) = none) := ⟨by
          rw [List.take_add_one, HX.out, List.find?_append, HA.out]
          simp [hq]⟩
        clear hq
        go_wp2_with fail
        refine (sub_is (HH.out.below (bthen hb BW.out)) HG.out HQ.out).mono ?_
        rintro e w' ⟨rfl, hb2⟩
        go_wp2
        go_roundw
        case rel => exact ⟨kk + 1, by omega, by go_num, ⟨bthen BW.out hb2⟩, HA2⟩
        case measure => simp [intOf]; omega
      · have HQ := Aside0.mk hq
        have HR : Hid (res = x) := Lib.hid (by
          rw [HU.out, find_at HX.out hq HA.out]
          rfl)
        clear hq
        go_wp2_with fail
        refine (sub_is (HH.out.below (bthen hb BW.out)) HG.out HQ.out).mono ?_
        rintro e w' ⟨rfl, hb2⟩
        go_wp2
        go_ret
        exact ⟨by rw [HR.out]; rfl, bthen (bthen hb BW.out) hb2⟩
    · have hltz : ¬ (kk : Int) < (n : Int) := by omega
      have HR : Hid (res = Pl.nil) := Lib.hid (by
        have h1 := HA.out
        rw [List.take_of_length_le (by have := HN.out; omega)] at h1
        rw [HU.out, h1]
        rfl)
      go_wp2
      go_ret
      exact ⟨by rw [HR.out]; rfl, bthen hb BW.out⟩
theorem common_is {g : Nat} {h : Hier} {a b : Nm} {w : World} (H : HierIs w g h) (hg : Good h) {q : Nm} (hq : common h a b = q) :
    Calls Try.prog 105 #[.pointer (some ⟨g, 0, none⟩), .string a, .string b] w fun e w' => e = .returned (.string q) ∧ Below w.heap.size w w' := by
  have := common_any g h a b w H hg
  rwa [hq] at this

/-! ### types of values -/
set_option maxHeartbeats 400000 in
theorem refers_any (t : Ty) (w : World) : Calls Try.prog 104 #[.agg #[.int .i64 t.kind, .string t.cls]] w fun e w' => e = .returned (.bool (refers t)) ∧ Below w.heap.size w w' := by
  obtain ⟨k, c⟩ := t
  simp only
  by_cases h3 : k = 3 <;> by_cases h4 : k = 4
  all_goals first
    | omega
    | (try subst h3
       try subst h4
       go_enter Try.func104, Try.ntmps104
       go_wp2
       go_ret
       refine ⟨congrArg (fun b => Ending.returned (.bool b)) ?_, balloc _ _⟩
       first | rfl | (rw [Bool.eq_iff_iff]; simp [refers]; try omega))
theorem refers_is {t : Ty} {q : Bool} (hq : refers t = q) (w : World) : Calls Try.prog 104 #[.agg #[.int .i64 t.kind, .string t.cls]] w fun e w' => e = .returned (.bool q) ∧ Below w.heap.size w w' := by
  have := refers_any t w
  rwa [hq] at this
set_option maxHeartbeats 400000 in
theorem words_any (t : Ty) (w : World) : Calls Try.prog 67 #[.agg #[.int .i64 t.kind, .string t.cls]] w fun e w' => e = .returned (.int .i64 (words t)) ∧ Below w.heap.size w w' := by
  obtain ⟨k, c⟩ := t
  simp only
  by_cases h : k = 1 ∨ k = 2 ∨ k = 3 ∨ k = 4 ∨ k = 5
  · rcases h with rfl | rfl | rfl | rfl | rfl
    all_goals
      go_enter Try.func67, Try.ntmps67
      go_wp2
      go_ret
      exact ⟨rfl, balloc _ _⟩
  · simp only [not_or] at h
    obtain ⟨a1, a2, a3, a4, a5⟩ := h
    have hu : words ⟨k, c⟩ = 0 := by
      unfold words
      simp only
      rw [if_neg a2, if_neg (by omega)]
    rw [hu]
    go_enter Try.func67, Try.ntmps67
    go_wp2
    go_ret
    exact ⟨rfl, balloc _ _⟩
set_option maxHeartbeats 400000 in
set_option maxRecDepth 10000 in
theorem fits_any (g : Nat) (h : Hier) (a b : Ty) (w : World) (H : HierIs w g h) (hg : Good h) :
    Calls Try.prog 147 #[.pointer (some ⟨g, 0, none⟩), .agg #[.int .i64 a.kind, .string a.cls], .agg #[.int .i64 b.kind, .string b.cls]] w fun e w' => e = .returned (.bool (fits h a b)) ∧ Below w.heap.size w w' := by
  have HH := Aside0.mk H
  have HG := Aside0.mk hg
  clear H hg
  obtain ⟨ka, ca⟩ := a
  obtain ⟨kb, cb⟩ := b
  simp only
  have hb2 := bthen (balloc w (.cells #[.int .i64 ka, .string ca] 48)) (balloc _ (.cells #[.int .i64 kb, .string cb] 48))
  by_cases p6 : kb = 6
  · have hu : fits h ⟨ka, ca⟩ ⟨kb, cb⟩ = true := by unfold fits; rw [if_pos p6]
    rw [hu]
    clear hu
    subst p6
    go_enter Try.func147, Try.ntmps147
    go_wp2
    go_ret
    exact ⟨rfl, hb2⟩
  by_cases p5 : ka = 5
  · have hu : fits h ⟨ka, ca⟩ ⟨kb, cb⟩ = (decide (kb = 5) || decide (kb = 3) || decide (kb = 4)) := by unfold fits; rw [if_neg p6, if_pos p5]
    rw [hu]
    clear hu
    subst p5
    by_cases q5 : kb = 5
    · subst q5
      go_enter Try.func147, Try.ntmps147
      go_wp2
      go_ret
      exact ⟨rfl, hb2⟩
    by_cases q3 : kb = 3
    · subst q3
      go_enter Try.func147, Try.ntmps147
      go_wp2
      go_ret
      exact ⟨rfl, hb2⟩
    by_cases q4 : kb = 4
    · subst q4
      go_enter Try.func147, Try.ntmps147
      go_wp2
      go_ret
      exact ⟨rfl, hb2⟩
    · have e4 : (kb == 4) = false := by rw [beq_eq_false_iff_ne]; exact q4
      go_enter Try.func147, Try.ntmps147
      go_wp2
      go_ret
      exact ⟨by simp [q5, q3, q4], hb2⟩
  by_cases p4 : ka = 4 ∧ kb = 4
  · obtain ⟨rfl, rfl⟩ := p4
    have hu : fits h ⟨4, ca⟩ ⟨4, cb⟩ = subB h ca cb := by unfold fits; rw [if_neg p6, if_neg p5, if_pos ⟨rfl, rfl⟩]
    rw [hu]
    clear hu
    go_enter Try.func147, Try.ntmps147
    go_wp2_with fail
    refine (sub_any g h ca cb _ (HH.out.below hb2) HG.out).mono ?_
    rintro e w' ⟨rfl, hb⟩
    go_wp2
    go_ret
    exact ⟨rfl, bthen hb2 hb⟩
  have hu : fits h ⟨ka, ca⟩ ⟨kb, cb⟩ = (decide (ka = kb) && decide (1 ≤ ka) && decide (ka ≤ 3)) := by unfold fits; rw [if_neg p6, if_neg p5, if_neg p4]
  rw [hu]
  clear hu
  by_cases q4 : ka = 4
  · have q4b : ¬ kb = 4 := fun e => p4 ⟨q4, e⟩
    subst q4
    have e4 : ((4 : Int) == kb) = false := by rw [beq_eq_false_iff_ne]; omega
    go_enter Try.func147, Try.ntmps147
    go_wp2
    go_ret
    exact ⟨by simp, hb2⟩
  by_cases qe : ka = kb
  · subst qe
    by_cases q1 : 1 ≤ ka <;> by_cases q3 : ka ≤ 3
    all_goals first
      | omega
      | (go_enter Try.func147, Try.ntmps147
         go_wp2
         go_ret
         exact ⟨by simp [q1, q3], hb2⟩)
  · have e4 : (ka == kb) = false := by rw [beq_eq_false_iff_ne]; exact qe
    go_enter Try.func147, Try.ntmps147
    go_wp2
    go_ret
    exact ⟨by simp [qe], hb2⟩
end Go.Proofs.Ytpdjkclacbgneaa
