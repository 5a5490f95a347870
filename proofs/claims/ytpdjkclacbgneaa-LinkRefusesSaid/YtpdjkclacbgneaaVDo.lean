/- verify's ints, cplxs, object. -/
import Derived.Test.YtpdjkclacbgneaaVTake
set_option linter.unusedVariables false
set_option linter.unusedSimpArgs false
namespace Go.Proofs.Ytpdjkclacbgneaa
open Go.RowKit Go.Shelf Go.Proofs.YtpdjkclacbgneaaW.PrintWords Go.Proofs.Ytpdjkclacbgneaa.Pl

theorem takes_any {B : Nat} {w : World} {rb fb pb : Nat} {p : Pg} {r : Rn} (h : RunAt B w rb fb r) (E : EnvAt B w fb pb p) (t : Ty) (g : Nat) (hg : w.heap[g]? = some (.cells #[.int .i64 t.kind, .string t.cls] 48 (0, 0))) :
    Calls Try.prog 131 #[.pointer (some ⟨rb, 0, none⟩), .slice (some ⟨g, 0, none⟩) 1 1] w fun x w' => x = .returned (.tuple #[]) ∧ RunAt B w' rb fb (takes p r t) ∧ w.grownBy w' (some rb) := by
  obtain ⟨c0, c1⟩ := Bx.two ⟨hg⟩
  exact callsIn_wide.1 (takes_in h E t g (blk_lt hg) c0 c1)
theorem takesN_snoc (p : Pg) (t : Ty) : ∀ (n : Nat) (r : Rn), takesN p t (n + 1) r = takes p (takesN p t n r) t
  | 0, r => rfl
  | n + 1, r => takesN_snoc p t n (takes p r t)
theorem blk_second (w : World) (a b : Obj) : ((w.alloc a).alloc b).heap[w.heap.size + 1]? = some b := by
  have := blk_new (w.alloc a) b
  rwa [World.size_alloc] at this
set_option maxRecDepth 10000 in
set_option maxHeartbeats 400000 in
theorem ints_any {B : Nat} {w : World} {rb fb pb : Nat} {p : Pg} {r : Rn} (h : RunAt B w rb fb r) (E : EnvAt B w fb pb p) (n : Nat) (hn : n ≤ 2) :
    Calls Try.prog 109 #[.pointer (some ⟨rb, 0, none⟩), .int .i64 n] w fun x w' => x = .returned (.tuple #[]) ∧ RunAt B w' rb fb (takesN p (kindT 1) n r) ∧ w.grownBy w' (some rb) := by
  have hs := h.size
  have hle := h.le
  have H := Aside0.mk h
  have E := Aside0.mk E
  clear h
  go_enter Try.func109, Try.ntmps109
  go_wp2
  go_loopw [5] (fun s5 wr => ∃ k : Nat, k ≤ n ∧ s5 = .int .i64 k ∧ Aside0 (RunAt B wr rb fb (takesN p (kindT 1) k r) ∧ w.grownBy wr (some rb))) (fun s _ => n - (intOf s).toNat)
  case atStart => exact ⟨0, Nat.zero_le _, rfl, ⟨H.out, only_refl w _⟩⟩
  case round =>
    obtain ⟨k, hk, rfl, HW⟩ := hrel
    by_cases hlt : k < n
    · have hltz : (k : Int) < (n : Int) := by omega
      go_wp2_with (go_at_call 79; refine (kind_any 1 _).mono ?_; rintro e w1 ⟨rfl, rfl⟩)
      have b2 : Below wr.heap.size wr ((wr.alloc (.cells #[.int .i64 1, .string ⟨#[]⟩] 48)).alloc (.cells #[.int .i64 1, .string ⟨#[]⟩] 48)) := bthen (balloc wr _) (balloc _ _)
      refine (takes_any (HW.out.1.below b2) (E.out.below ((only_bel HW.out.2 hs hle).trans (b2.mono (HW.out.1.size)))) (kindT 1) (wr.heap.size + 1) (blk_second _ _ _)).mono ?_
      rintro e w2 ⟨rfl, hr2, hg2⟩
      rw [← takesN_snoc] at hr2
      have H2 : Aside0 (RunAt B w2 rb fb (takesN p (kindT 1) (k + 1) r) ∧ w.grownBy w2 (some rb)) := ⟨hr2, only_then (only_below HW.out.2 b2) hg2⟩
      clear hr2 hg2
      go_wp2
      go_roundw
      case rel => exact ⟨k + 1, by omega, by go_num, H2⟩
      case measure => simp [intOf]; omega
    · have hltz : ¬ (k : Int) < (n : Int) := by omega
      obtain rfl : k = n := by omega
      go_wp2
      go_end0
      exact ⟨rfl, HW.out.1, HW.out.2⟩
set_option maxRecDepth 10000 in
set_option maxHeartbeats 400000 in
theorem cplxs_any {B : Nat} {w : World} {rb fb pb : Nat} {p : Pg} {r : Rn} (h : RunAt B w rb fb r) (E : EnvAt B w fb pb p) (n : Nat) (hn : n ≤ 2) :
    Calls Try.prog 110 #[.pointer (some ⟨rb, 0, none⟩), .int .i64 n] w fun x w' => x = .returned (.tuple #[]) ∧ RunAt B w' rb fb (takesN p (kindT 2) n r) ∧ w.grownBy w' (some rb) := by
  have hs := h.size
  have hle := h.le
  have H := Aside0.mk h
  have E := Aside0.mk E
  clear h
  go_enter Try.func110, Try.ntmps110
  go_wp2
  go_loopw [5] (fun s5 wr => ∃ k : Nat, k ≤ n ∧ s5 = .int .i64 k ∧ Aside0 (RunAt B wr rb fb (takesN p (kindT 2) k r) ∧ w.grownBy wr (some rb))) (fun s _ => n - (intOf s).toNat)
  case atStart => exact ⟨0, Nat.zero_le _, rfl, ⟨H.out, only_refl w _⟩⟩
  case round =>
    obtain ⟨k, hk, rfl, HW⟩ := hrel
    by_cases hlt : k < n
    · have hltz : (k : Int) < (n : Int) := by omega
      go_wp2_with (go_at_call 79; refine (kind_any 2 _).mono ?_; rintro e w1 ⟨rfl, rfl⟩)
      have b2 : Below wr.heap.size wr ((wr.alloc (.cells #[.int .i64 2, .string ⟨#[]⟩] 48)).alloc (.cells #[.int .i64 2, .string ⟨#[]⟩] 48)) := bthen (balloc wr _) (balloc _ _)
      refine (takes_any (HW.out.1.below b2) (E.out.below ((only_bel HW.out.2 hs hle).trans (b2.mono (HW.out.1.size)))) (kindT 2) (wr.heap.size + 1) (blk_second _ _ _)).mono ?_
      rintro e w2 ⟨rfl, hr2, hg2⟩
      rw [← takesN_snoc] at hr2
      have H2 : Aside0 (RunAt B w2 rb fb (takesN p (kindT 2) (k + 1) r) ∧ w.grownBy w2 (some rb)) := ⟨hr2, only_then (only_below HW.out.2 b2) hg2⟩
      clear hr2 hg2
      go_wp2
      go_roundw
      case rel => exact ⟨k + 1, by omega, by go_num, H2⟩
      case measure => simp [intOf]; omega
    · have hltz : ¬ (k : Int) < (n : Int) := by omega
      obtain rfl : k = n := by omega
      go_wp2
      go_end0
      exact ⟨rfl, HW.out.1, HW.out.2⟩
/-- What object leaves: array: whether an array's may be. -/
def objectB (arr : Bool) (r : Rn) (t : Ty) : Rn := if r.e = 0 ∧ t.kind ≠ 4 ∧ t.kind ≠ 5 ∧ ¬ (arr = true ∧ t.kind = 3) then bad r 80 else r
theorem objectB_false (r : Rn) (t : Ty) : objectB false r t = objectR r t := by
  unfold objectB objectR
  simp
set_option maxRecDepth 10000 in
set_option maxHeartbeats 800000 in
theorem object_any {B : Nat} {w : World} {rb fb : Nat} {r : Rn} (h : RunAt B w rb fb r) (t : Ty) (arr : Bool) :
    Calls Try.prog 132 #[.pointer (some ⟨rb, 0, none⟩), .agg #[.int .i64 t.kind, .string t.cls], .bool arr] w fun x w' => x = .returned (.tuple #[]) ∧ RunAt B w' rb fb (objectB arr r t) ∧ w.grownBy w' (some rb) := by
  have H := Aside0.mk h
  obtain ⟨L, S, h2, _⟩ := h.out
  obtain ⟨_, _, _, _, _, c5, _⟩ := run_cells h2
  have hrb := h.lt
  clear h h2
  by_cases he : r.e = 0
  · by_cases h4 : t.kind = 4
    · have he' : (r.e == 0) = true := by rw [he]; rfl
      have e4 : (t.kind != 4) = false := by simp [h4]
      have HR : Hid (objectB arr r t = r) := Lib.hid (by unfold objectB; rw [if_neg (by rintro ⟨_, h, _⟩; exact h h4)])
      clear he h4
      go_enter Try.func132, Try.ntmps132
      go_wp2
      go_end0
      rw [HR.out]
      exact ⟨rfl, H.out.below (balloc w _), only_alloc (only_refl w _) _⟩
    · by_cases h5 : t.kind = 5
      · have he' : (r.e == 0) = true := by rw [he]; rfl
        have e4 : (t.kind != 4) = true := by simp [h4]
        have e5 : (t.kind != 5) = false := by simp [h5]
        have HR : Hid (objectB arr r t = r) := Lib.hid (by unfold objectB; rw [if_neg (by rintro ⟨_, _, h, _⟩; exact h h5)])
        clear he h4 h5
        go_enter Try.func132, Try.ntmps132
        go_wp2
        go_end0
        rw [HR.out]
        exact ⟨rfl, H.out.below (balloc w _), only_alloc (only_refl w _) _⟩
      · cases arr with
        | false =>
          have he' : (r.e == 0) = true := by rw [he]; rfl
          have e4 : (t.kind != 4) = true := by simp [h4]
          have e5 : (t.kind != 5) = true := by simp [h5]
          have HR : Hid (objectB false r t = bad r 80) := Lib.hid (by unfold objectB; rw [if_pos (by exact ⟨he, h4, h5, by simp⟩)])
          clear he h4 h5
          go_enter Try.func132, Try.ntmps132
          go_wp2_with (go_at_call 107; refine (bad_any (H.out.below (balloc w _)) 80).mono ?_; rintro e w1 ⟨rfl, rfl⟩)
          go_end0
          rw [HR.out]
          exact ⟨rfl, ((H.out.below (balloc w _)).bad 80).1, only_then (only_alloc (only_refl w _) _) (only_badW _ _ _ _)⟩
        | true =>
          by_cases h3 : t.kind = 3
          · have he' : (r.e == 0) = true := by rw [he]; rfl
            have e4 : (t.kind != 4) = true := by simp [h4]
            have e5 : (t.kind != 5) = true := by simp [h5]
            have e3 : (t.kind == 3) = true := by simp [h3]
            have HR : Hid (objectB true r t = r) := Lib.hid (by unfold objectB; rw [if_neg (by rintro ⟨_, _, _, h⟩; exact h ⟨rfl, h3⟩)])
            clear he h4 h5 h3
            go_enter Try.func132, Try.ntmps132
            go_wp2
            go_end0
            rw [HR.out]
            exact ⟨rfl, H.out.below (balloc w _), only_alloc (only_refl w _) _⟩
          · have he' : (r.e == 0) = true := by rw [he]; rfl
            have e4 : (t.kind != 4) = true := by simp [h4]
            have e5 : (t.kind != 5) = true := by simp [h5]
            have e3 : (t.kind == 3) = false := by simp [h3]
            have HR : Hid (objectB true r t = bad r 80) := Lib.hid (by unfold objectB; rw [if_pos (by exact ⟨he, h4, h5, fun h => h3 h.2⟩)])
            clear he h4 h5 h3
            go_enter Try.func132, Try.ntmps132
            go_wp2_with (go_at_call 107; refine (bad_any (H.out.below (balloc w _)) 80).mono ?_; rintro e w1 ⟨rfl, rfl⟩)
            go_end0
            rw [HR.out]
            exact ⟨rfl, ((H.out.below (balloc w _)).bad 80).1, only_then (only_alloc (only_refl w _) _) (only_badW _ _ _ _)⟩
  · have he' : (r.e == 0) = false := by rw [beq_eq_false_iff_ne]; exact he
    have HR : Hid (objectB arr r t = r) := Lib.hid (by unfold objectB; rw [if_neg (by exact fun h => he h.1)])
    clear he
    go_enter Try.func132, Try.ntmps132
    go_wp2
    go_end0
    rw [HR.out]
    exact ⟨rfl, H.out.below (balloc w _), only_alloc (only_refl w _) _⟩
end Go.Proofs.Ytpdjkclacbgneaa
