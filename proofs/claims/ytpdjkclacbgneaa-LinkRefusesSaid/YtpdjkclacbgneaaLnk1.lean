/- link's there, has. -/
import Derived.Test.YtpdjkclacbgneaaMeth
set_option linter.unusedVariables false
set_option linter.unusedSimpArgs false
namespace Go.Proofs.Ytpdjkclacbgneaa
open Go.RowKit Go.Shelf Go.Proofs.YtpdjkclacbgneaaW.PrintWords Go.Proofs.Ytpdjkclacbgneaa.Pl

set_option maxHeartbeats 400000 in
set_option maxRecDepth 10000 in
theorem there_any (pb : Nat) (p : Pg) (t : Ty) (w : World) (H : ProgIs w pb p) :
    Calls Try.prog 62 #[.pointer (some ⟨pb, 0, none⟩), .agg #[.int .i64 t.kind, .string t.cls]] w fun e w' => e = .returned (.bool (Pl.there p t)) ∧ Below w.heap.size w w' := by
  obtain ⟨k, c⟩ := t
  simp only
  have hpb := H.lt
  obtain ⟨_, ⟨g, hg, hI⟩, _⟩ := H
  have HI := Aside0.mk hI
  clear hI
  by_cases hk : k = 4
  · subst hk
    obtain ⟨q, hq⟩ : ∃ q, Pl.has p.h c = q := ⟨_, rfl⟩
    have hu : Pl.there p ⟨4, c⟩ = q := by simp [Pl.there, hq]
    rw [hu]
    have HQ := Aside0.mk hq
    clear hu hq
    go_enter Try.func62, Try.ntmps62
    go_wp2_with fail
    obtain ⟨w1, hw1⟩ : ∃ w1, w1 = w.alloc (.cells #[.int .i64 4, .string c] 48) := ⟨_, rfl⟩
    rw [← hw1]
    have hB : Below w.heap.size w w1 := by rw [hw1]; exact balloc _ _
    have hbx : w1.heap[w.heap.size]? = some (.cells #[.int .i64 4, .string c] 48) := by rw [hw1]; exact blk_new _ _
    clear hw1
    obtain ⟨c0, c1⟩ := Bx.two ⟨hbx⟩
    have hg1 := pw_cell_below hB hg
    have HI1 := Aside0.mk (HI.out.below hB)
    go_quiet (first | (go_at_call 39; exact Calls.quiet_of_same (csame (has_is (HI1.out.below (pw_below_drewN (Below.refl _ _) _)) HQ.out))))
    go_wp2
    go_ret
    exact ⟨rfl, pw_below_drewN hB _⟩
  · have hu : Pl.there p ⟨k, c⟩ = true := by simp [Pl.there, hk]
    rw [hu]
    clear hu
    go_enter Try.func62, Try.ntmps62
    go_wp2_with fail
    have hkb : (k == 4) = false := by rw [beq_eq_false_iff_ne]; exact hk
    have hkn : (k != 4) = true := by simp [hk]
    go_quiet (fail)
    go_wp2
    go_ret
    exact ⟨rfl, pw_below_drewN (balloc _ _) _⟩
theorem there_is {pb : Nat} {p : Pg} {t : Ty} {w : World} (H : ProgIs w pb p) {q : Bool} (hq : Pl.there p t = q) :
    Calls Try.prog 62 #[.pointer (some ⟨pb, 0, none⟩), .agg #[.int .i64 t.kind, .string t.cls]] w fun e w' => e = .returned (.bool q) ∧ Below w.heap.size w w' := by
  have := there_any pb p t w H
  rwa [hq] at this
set_option maxHeartbeats 400000 in
theorem has1_any (o : Pl.Fd) (g : Nat) (nm : ByteArray) (W : World) (hg : g < W.heap.size) (hc : W.cell? ⟨g, 0, none⟩ = some (.string nm)) :
    Calls Try.prog 96 #[.agg (fdCs o).toArray, .pointer (some ⟨g, 0, none⟩)] W fun e w' => e = .returned (.bool (decide (o.name = nm))) ∧ Below W.heap.size W w' := by
  obtain ⟨n, ⟨k, c⟩, v⟩ := o
  show Calls Try.prog 96 #[.agg #[.string n, .int .i64 k, .string c, .bool v], .pointer (some ⟨g, 0, none⟩)] W _
  by_cases h : n = nm
  · have e1 := str_eq h
    rw [decide_eq_true h]
    go_enter Try.func96, Try.ntmps96
    go_wp2
    go_ret
    exact ⟨rfl, balloc _ _⟩
  · have e1 := str_ne h
    rw [decide_eq_false h]
    go_enter Try.func96, Try.ntmps96
    go_wp2
    go_ret
    exact ⟨rfl, balloc _ _⟩
theorem has1_asks (l : List Pl.Fd) (n : Nat) (g : Nat) (nm : ByteArray) (W : World) (hg : g < W.heap.size) (hc : W.cell? ⟨g, 0, none⟩ = some (.string nm)) :
    Asks Try.prog 96 #[.pointer (some ⟨g, 0, none⟩)] (fun j => .agg (fdCs (l.getD j default)).toArray) n (fun j => decide ((l.getD j default).name = nm)) W :=
  fun j _ W' hb => has1_any (l.getD j default) g nm W' (Nat.lt_of_lt_of_le hg hb.size) ((hb.cell (p := ⟨g, 0, none⟩) hg).trans hc)
set_option maxHeartbeats 400000 in
set_option maxRecDepth 10000 in
theorem hasF_any (pb : Nat) (p : Pg) (cls name : Nm) (w : World) (H : ProgIs w pb p) :
    Calls Try.prog 65 #[.pointer (some ⟨pb, 0, none⟩), .string cls, .string name] w fun e w' => e = .returned (.bool (hasField p cls name)) ∧ Below w.heap.size w w' := by
  have HH := Aside0.mk H
  have hpb := H.lt
  obtain ⟨_, _, b, vs, hbc, hmap, hcls⟩ := H
  have hT : Try.prog.underlying 91 = some (.map 9 72) := Try.underlying91
  have hKs : Try.prog.underlying 9 = some .string := Try.underlying9
  have hrf := run_fields
  obtain ⟨cs, hcs, hK⟩ : ∃ cs, Pl.look (.agg zCl.toArray) vs cls = .agg cs.toArray ∧ clK.K w (clsOf p cls) cs := hcls.look cls
  obtain ⟨D0, e0, D1, e1, D2, e2, rfl, ⟨k0, k1, k2⟩, r0, r1, r2⟩ := clK_open hK
  have CF := cells_fd r1
  have hlk1 : ∀ o, (Instr.lookup 91 (.map (some b)) (.string cls) false).run Try.prog (w.alloc o) = .ok (Pl.look (.agg zCl.toArray) vs cls) (w.alloc o) := fun o => run_look (P := Try.prog) (s := cls) (hmap.below (balloc w o)) hT hKs (z := .agg zCl.toArray) (by kernel_rfl) false
  rw [hcs] at hlk1
  clear hcs hK r0 r1 r2 hcls hmap
  have HA : Hid (anyB (fun j => decide (((clsOf p cls).fields.getD j default).name = name)) (clsOf p cls).fields.length = hasField p cls name) := Lib.hid (anyB_list (fun f : Pl.Fd => decide (f.name = name)) default (clsOf p cls).fields)
  have eg := Aside0.mk (enters_of Try.func96 (by kernel_rfl) rfl)
  go_enter Try.func65, Try.ntmps65
  go_wp2_with fail
  have hbx : (w.alloc (.cells #[.string name] 9)).cell? ⟨w.heap.size, 0, none⟩ = some (.string name) := Bx.cell ⟨blk_new _ _⟩ (j := 0) rfl
  refine (contains_Fd _ _ eg.out D1 _ e1 _ _ _ (CF.below (balloc _ _)) (has1_asks (clsOf p cls).fields _ w.heap.size name _ (by simp) hbx)).mono ?_
  rintro e w1 ⟨rfl, hb⟩
  rw [HA.out]
  go_wp2
  go_ret
  exact ⟨rfl, bthen (balloc _ _) hb⟩
theorem hasF_is {pb : Nat} {p : Pg} {cls name : Nm} {w : World} (H : ProgIs w pb p) {q : Bool} (hq : hasField p cls name = q) :
    Calls Try.prog 65 #[.pointer (some ⟨pb, 0, none⟩), .string cls, .string name] w fun e w' => e = .returned (.bool q) ∧ Below w.heap.size w w' := by
  have := hasF_any pb p cls name w H
  rwa [hq] at this
end Go.Proofs.Ytpdjkclacbgneaa
