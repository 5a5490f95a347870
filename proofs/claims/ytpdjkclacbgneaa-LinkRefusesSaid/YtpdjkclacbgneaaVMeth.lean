/- link's Class; types' Names; what verify.Method asks. -/
import Derived.Test.YtpdjkclacbgneaaVGoes
set_option linter.unusedVariables false
set_option linter.unusedSimpArgs false
namespace Go.Proofs.Ytpdjkclacbgneaa
open Go.RowKit Go.Shelf Go.Proofs.YtpdjkclacbgneaaW.PrintWords Go.Proofs.Ytpdjkclacbgneaa.Pl

theorem chain5 {w W : World} {g : Nat} {a0 a1 a2 a3 a4 v0 v1 v2 v3 v4 : Value} {t : TypeId} {B : Nat} (hb : Below B w W) (hl : B ≤ g) (h : W.heap[g]? = some (.cells #[a0, a1, a2, a3, a4] t (0, 0))) :
    Below B w (((((W.setCell ⟨g, 0, none⟩ v0).setCell ⟨g, 1, none⟩ v1).setCell ⟨g, 2, none⟩ v2).setCell ⟨g, 3, none⟩ v3).setCell ⟨g, 4, none⟩ v4) ∧
    (((((W.setCell ⟨g, 0, none⟩ v0).setCell ⟨g, 1, none⟩ v1).setCell ⟨g, 2, none⟩ v2).setCell ⟨g, 3, none⟩ v3).setCell ⟨g, 4, none⟩ v4).heap[g]? = some (.cells #[v0, v1, v2, v3, v4] t (0, 0)) :=
  ⟨set_low (set_low (set_low (set_low (set_low hb hl _) hl _) hl _) hl _) hl _, by simp [World.setCell, Array.getElem?_modify, h]⟩
set_option maxRecDepth 10000 in
set_option maxHeartbeats 400000 in
theorem class_any (pb : Nat) (p : Pg) (n : Nm) (w : World) (H : ProgIs w pb p) :
    Calls Try.prog 48 #[.pointer (some ⟨pb, 0, none⟩), .string n] w fun e w' => ∃ cs, e = .returned (.tuple #[.agg cs.toArray, .bool (Pl.has p.cs n)]) ∧ clK.K w (clsOf p n) cs ∧ Below w.heap.size w w' := by
  have hpb := H.lt
  obtain ⟨_, _, b, vs, h3, h4, h5⟩ := H
  obtain ⟨cs, h6, hK⟩ := h5.look n
  have hlk := run_look (P := Try.prog) (s := n) (h4.below (balloc w (.cells #[.string ⟨#[]⟩, .string ⟨#[]⟩, .slice none 0 0, .slice none 0 0, .slice none 0 0] 72))) Try.underlying91 Try.underlying9 (z := .agg zCl.toArray) (by kernel_rfl) true
  rw [h6, h5.has n] at hlk
  obtain ⟨A0, c0, A1, c1, A2, c2, rfl, _⟩ := clK_open hK
  have HK := Aside0.mk hK
  have hb3 := pw_cell_below (balloc w (.cells #[.string ⟨#[]⟩, .string ⟨#[]⟩, .slice none 0 0, .slice none 0 0, .slice none 0 0] 72)) h3
  clear h3 h4 h5 h6 hK
  go_enter Try.func48, Try.ntmps48
  go_wp2
  refine bodyPost_ret (results_ct rfl _ _ _ _ _ _ _ rfl (blk_alloc (blk_new _ _) _) Try.underlying72 rfl (by kernel_rfl)) rfl ?_
  exact ⟨_, rfl, HK.out, bthen (balloc _ _) (balloc _ _)⟩
set_option maxHeartbeats 1000000 in
theorem vname_any (o : Mt) (cs : List Value) (g : Nat) (nm : ByteArray) (W : World) (ho : ∃ w, mtK.K w o cs) (hg : g < W.heap.size) (hc : W.cell? ⟨g, 0, none⟩ = some (.string nm)) :
    Calls Try.prog 50 #[.agg cs.toArray, .pointer (some ⟨g, 0, none⟩)] W fun e w' => e = .returned (.bool (decide (o.name = nm))) ∧ Below W.heap.size W w' := by
  obtain ⟨w, ho⟩ := ho
  obtain ⟨B0, d0, B1, d1, B2, d2, rfl, _, _, _, _⟩ := mtK_open ho
  clear ho
  generalize o.name = n
  by_cases h : n = nm
  · have e1 := str_eq h
    rw [decide_eq_true h]
    go_enter Try.func50, Try.ntmps50
    go_wp2
    go_ret
    exact ⟨rfl, balloc _ _⟩
  · have e1 := str_ne h
    rw [decide_eq_false h]
    go_enter Try.func50, Try.ntmps50
    go_wp2
    go_ret
    exact ⟨rfl, balloc _ _⟩
theorem vname_asks (l : List Mt) (n : Nat) (cs : Nat → List Value) (g : Nat) (nm : ByteArray) (W : World) (hk : ∀ j, j < n → ∃ w, mtK.K w (l.getD j default) (cs j)) (hg : g < W.heap.size) (hc : W.cell? ⟨g, 0, none⟩ = some (.string nm)) :
    Asks Try.prog 50 #[.pointer (some ⟨g, 0, none⟩)] (fun j => .agg (cs j).toArray) n (fun j => decide ((l.getD j default).name = nm)) W :=
  fun j hj W' hb => vname_any (l.getD j default) (cs j) g nm W' (hk j hj) (Nat.lt_of_lt_of_le hg hb.size) ((hb.cell (p := ⟨g, 0, none⟩) hg).trans hc)
/-! ### a clone of strings -/
def OwnStr (B : Nat) (w : World) (v : Value) (l : List Nm) : Prop := w.ownsRow B 9 1 v l.length (l.map Value.string)
theorem str_news {w : World} {ad : Addr} {l : List Nm} (h : Cells w (some ad) l.length 1 (fun j => [.string (l.getD j ByteArray.empty)])) (j : Nat) (u : Value) (hu : (l.map Value.string)[j]? = some u) : w.cell? (ad.add j) = some u := by
  have hj : j < l.length := by simpa using (List.getElem?_eq_some_iff.1 hu).1
  have h1 := h.one hj rfl
  rw [List.getElem?_map, List.getElem?_eq_getElem hj] at hu
  cases hu
  rw [h1, List.getD_eq_getElem?_getD, List.getElem?_eq_getElem hj]
  rfl
set_option maxRecDepth 10000 in
set_option maxHeartbeats 400000 in
theorem cloneStr_any (A : Option Addr) (c : Nat) (l : List Nm) (w : World) (h : Kd.string.C w A l.length l) (hA : A.isSome = true) (hl : l.length ≤ 1000) :
    Calls Try.prog 83 #[.slice A l.length c] w fun e w' => ∃ v1, e = .returned v1 ∧ OwnStr w.heap.size w' v1 l ∧ Below w.heap.size w w' := by
  obtain ⟨ad, rfl⟩ := Option.isSome_iff_exists.1 hA
  have CC := cells_str h
  have hst : Try.prog.underlying 55 = some (.slice 9) := Try.underlying55
  have hnil : ∀ (w : World) (a : Option Addr) (n c n' c' : Nat), (binOp .eql 55 (.slice a n c) (.slice none n' c')).run Try.prog w = .ok (.bool a.isNone) w := fun w a n c n' c' => Lib.run_eql_slice_nil w 55 9 a n c n' c' hst
  obtain ⟨i0, hi, hzz⟩ := Option.map_eq_some_iff.1 strInfo
  simp only [Prod.mk.injEq] at hzz
  obtain ⟨hz0, hz1, hz2⟩ := hzz
  have he : (w.alloc (.cells #[] 9)).ownsRow w.heap.size 9 1 (.slice (some ⟨w.heap.size, 0, none⟩) 0 0) 0 [] := ⟨rfl, .inr ⟨w.heap.size, 0, #[], rfl, Nat.le_refl _, blk_new _ _, Nat.le_refl _, by unfold maxLen; omega, rfl, rfl⟩⟩
  obtain ⟨v1, w1, E1, h2, hgr, _, hat⟩ := run_append_own_at (P := Try.prog) (w := w.alloc (.cells #[] 9)) w.heap.size 55 55 9 i0 (.string ⟨#[]⟩) 1 16 hst hi hz0 hz1 hz2 rfl (by decide) _ 0 [] he ad l.length c (l.map Value.string) (by simp)
    (str_news (CC.below (balloc w _))) (by intro u hu; simp only [List.mem_map] at hu; obtain ⟨q, _, rfl⟩ := hu; rfl) (by simp only [maxLen]; omega) (by omega) (by simp)
  have H2 : Aside0 (OwnStr w.heap.size w1 v1 l) := ⟨by simpa [OwnStr] using h2⟩
  have HB : Aside0 (Below w.heap.size w w1) := ⟨pw_below_grown (balloc w _) _ (by simp) hgr (fun k e => by cases e; exact Nat.le_refl _)⟩
  clear h CC h2 hgr hat he hi hz0 hz1 hz2 hA
  go_enter Try.func83, Try.ntmps83
  go_wp2_with (at_builtin; refine wpList_append_E rfl _ _ _ rfl rfl rfl E1 ?_)
  go_wp2
  go_ret
  exact ⟨_, rfl, H2.out, HB.out⟩
end Go.Proofs.Ytpdjkclacbgneaa
