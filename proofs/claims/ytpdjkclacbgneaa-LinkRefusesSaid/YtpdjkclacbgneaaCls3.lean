/- The rows of the class files' parts; class.fields. -/
import Derived.Test.YtpdjkclacbgneaaIdx
import Derived.Shelf.Abstract
set_option linter.unusedVariables false
set_option linter.unusedSimpArgs false
namespace Go.Proofs.Ytpdjkclacbgneaa
open Go.RowKit Go.Shelf Go.Proofs.YtpdjkclacbgneaaW.PrintWords Go.Proofs.Ytpdjkclacbgneaa.Pl

/-! ### what the elements' cells say -/
def tyCs (t : Ty) : List Value := [.int .i64 t.kind, .string t.cls]
def cnCs (c : Cn) : List Value := [.int .i64 c.kind, .int .i64 c.int, .complex .f64 c.re c.im, .string c.cls, .string c.name]
def inCs (i : In) : List Value := [.int .i64 i.op, .int .i64 i.a]
def fdCs (f : Pl.Fd) : List Value := [.string f.name, .int .i64 f.ty.kind, .string f.ty.cls, .bool f.vol]
def hnCs (h : Hn) : List Value := [.int .i64 h.lo, .int .i64 h.hi, .int .i64 h.target, .int .i64 h.cls, .int .i64 h.depth]
theorem tyK_open {w : World} {t : Ty} {cs : List Value} (h : tyK.K w t cs) : cs = tyCs t := by
  obtain ⟨c0, c1, rfl, h0, h1⟩ := h
  obtain rfl : c0 = [.int .i64 t.kind] := h0
  obtain rfl : c1 = [.string t.cls] := h1
  rfl
theorem inK_open {w : World} {t : In} {cs : List Value} (h : inK.K w t cs) : cs = inCs t := by
  obtain ⟨c0, c1, rfl, h0, h1⟩ := h
  obtain rfl : c0 = [.int .i64 t.op] := h0
  obtain rfl : c1 = [.int .i64 t.a] := h1
  rfl
theorem fdK_open {w : World} {f : Pl.Fd} {cs : List Value} (h : fdK.K w f cs) : cs = fdCs f := by
  obtain ⟨c0, c1, rfl, h0, c2, c3, rfl, h2, h3⟩ := h
  obtain rfl : c0 = [.string f.name] := h0
  obtain rfl := tyK_open h2
  obtain rfl : c3 = [.bool f.vol] := h3
  rfl
theorem cnK_open {w : World} {f : Cn} {cs : List Value} (h : cnK.K w f cs) : cs = cnCs f := by
  obtain ⟨c0, c1, rfl, h0, c2, c3, rfl, h2, c4, c5, rfl, h4, c6, c7, rfl, h6, h7⟩ := h
  obtain rfl : c0 = [.int .i64 f.kind] := h0
  obtain rfl : c2 = [.int .i64 f.int] := h2
  obtain rfl : c4 = [.complex .f64 f.re f.im] := h4
  obtain rfl : c6 = [.string f.cls] := h6
  obtain rfl : c7 = [.string f.name] := h7
  rfl
theorem hnK_open {w : World} {f : Hn} {cs : List Value} (h : hnK.K w f cs) : cs = hnCs f := by
  obtain ⟨c0, c1, rfl, h0, c2, c3, rfl, h2, c4, c5, rfl, h4, c6, c7, rfl, h6, h7⟩ := h
  obtain rfl : c0 = [.int .i64 f.lo] := h0
  obtain rfl : c2 = [.int .i64 f.hi] := h2
  obtain rfl : c4 = [.int .i64 f.target] := h4
  obtain rfl : c6 = [.int .i64 f.cls] := h6
  obtain rfl : c7 = [.int .i64 f.depth] := h7
  rfl
/-- The cells of a row, element by element. -/
theorem cells_of {α : Type} {d : Kd α} {w : World} {A : Option Addr} {l : List α} (z : α) (h : d.C w A l.length l) : ∃ cs, Cells w A l.length d.sz cs ∧ ∀ j, j < l.length → d.K w (l.getD j z) (cs j) := by
  have hx : ∀ j : Nat, ∃ c : List Value, j < l.length → (c.length = d.sz ∧ d.K w (l.getD j z) c ∧ ∀ ad, A = some ad → ∀ i u, c[i]? = some u → w.cell? (ad.add (j * d.sz + i)) = some u) := by
    intro j
    by_cases hj : j < l.length
    · obtain ⟨ad, e, hc⟩ := h.2.2 (by omega)
      obtain ⟨c, h1, h2, h3⟩ := hc j _ (List.getElem?_eq_getElem hj)
      refine ⟨c, fun _ => ⟨h1, ?_, fun ad' e' => ?_⟩⟩
      · rw [List.getD_eq_getElem?_getD, List.getElem?_eq_getElem hj]
        exact h2
      · rw [e] at e'
        cases e'
        exact h3
    · exact ⟨[], fun h => absurd h hj⟩
  refine ⟨fun j => Classical.choose (hx j), ⟨h.2.1, fun hn => ?_⟩, fun j hj => (Classical.choose_spec (hx j) hj).2.1⟩
  obtain ⟨ad, e, _⟩ := h.2.2 hn
  exact ⟨ad, e, fun j hj => ⟨(Classical.choose_spec (hx j) hj).1, (Classical.choose_spec (hx j) hj).2.2 ad e⟩⟩
theorem cells_is {α : Type} {d : Kd α} {w : World} {A : Option Addr} {l : List α} (z : α) {f : α → List Value} (hf : ∀ x cs, d.K w x cs → cs = f x) (h : d.C w A l.length l) : Cells w A l.length d.sz (fun j => f (l.getD j z)) := by
  obtain ⟨cs, hc, hk⟩ := cells_of z h
  refine ⟨hc.1, fun hn => ?_⟩
  obtain ⟨ad, e, h1⟩ := hc.2 hn
  refine ⟨ad, e, fun j hj => ?_⟩
  have h2 := hf _ _ (hk j hj)
  show (f (l.getD j z)).length = _ ∧ ∀ i v, (f (l.getD j z))[i]? = some v → _
  rw [← h2]
  exact h1 j hj
theorem cells_fd {w : World} {A : Option Addr} {l : List Pl.Fd} (h : fdK.C w A l.length l) : Cells w A l.length 4 (fun j => fdCs (l.getD j default)) := cells_is default (fun _ _ => fdK_open) h
theorem cells_ty {w : World} {A : Option Addr} {l : List Ty} (h : tyK.C w A l.length l) : Cells w A l.length 2 (fun j => tyCs (l.getD j default)) := cells_is default (fun _ _ => tyK_open) h
theorem cells_in {w : World} {A : Option Addr} {l : List In} (h : inK.C w A l.length l) : Cells w A l.length 2 (fun j => inCs (l.getD j default)) := cells_is default (fun _ _ => inK_open) h
theorem cells_cn {w : World} {A : Option Addr} {l : List Cn} (h : cnK.C w A l.length l) : Cells w A l.length 5 (fun j => cnCs (l.getD j default)) := cells_is default (fun _ _ => cnK_open) h
theorem cells_hn {w : World} {A : Option Addr} {l : List Hn} (h : hnK.C w A l.length l) : Cells w A l.length 5 (fun j => hnCs (l.getD j default)) := cells_is default (fun _ _ => hnK_open) h
theorem Cells.cut {w : World} {A : Option Addr} {n m k : Nat} {cs : Nat → List Value} (h : Cells w A n k cs) (hm : m ≤ n) : Cells w A m k cs :=
  ⟨Nat.le_trans hm h.1, fun hp => by
    obtain ⟨ad, e, hc⟩ := h.2 (by omega)
    exact ⟨ad, e, fun j hj => hc j (by omega)⟩⟩

/-! ### the answers over lists, step by step -/
theorem firstOn_step {α : Type} {f : List α → α → Int} {l : List α} {k : Nat} {x : α} (hx : l[k]? = some x) : firstOn f (l.take k) (l.drop k) = if f (l.take k) x = 0 then firstOn f (l.take (k + 1)) (l.drop (k + 1)) else f (l.take k) x := by
  obtain ⟨hk, rfl⟩ := List.getElem?_eq_some_iff.1 hx
  rw [List.drop_eq_getElem_cons hk, firstOn, List.take_add_one, hx]
  rfl
theorem firstOf_step {α : Type} {f : α → Int} {l : List α} {k : Nat} {x : α} (hx : l[k]? = some x) : firstOf f (l.drop k) = if f x = 0 then firstOf f (l.drop (k + 1)) else f x := by
  obtain ⟨hk, rfl⟩ := List.getElem?_eq_some_iff.1 hx
  rw [List.drop_eq_getElem_cons hk, firstOf]

set_option maxHeartbeats 1000000 in
theorem fields1_any (o : Pl.Fd) (g : Nat) (nm : ByteArray) (W : World) (hg : g < W.heap.size) (hc : W.cell? ⟨g, 0, none⟩ = some (.string nm)) :
    Calls Try.prog 89 #[.agg (fdCs o).toArray, .pointer (some ⟨g, 0, none⟩)] W fun e w' => e = .returned (.bool (decide (o.name = nm))) ∧ Below W.heap.size W w' := by
  obtain ⟨n, ⟨k, c⟩, v⟩ := o
  show Calls Try.prog 89 #[.agg #[.string n, .int .i64 k, .string c, .bool v], .pointer (some ⟨g, 0, none⟩)] W _
  by_cases h : n = nm
  · have e1 := str_eq h
    rw [decide_eq_true h]
    go_enter Try.func89, Try.ntmps89
    go_wp2
    go_ret
    exact ⟨rfl, balloc _ _⟩
  · have e1 := str_ne h
    rw [decide_eq_false h]
    go_enter Try.func89, Try.ntmps89
    go_wp2
    go_ret
    exact ⟨rfl, balloc _ _⟩
theorem getD_take {α : Type} (z : α) (l : List α) {k j : Nat} (hj : j < k) : (l.take k).getD j z = l.getD j z := by
  rw [List.getD_eq_getElem?_getD, List.getD_eq_getElem?_getD, List.getElem?_take, if_pos hj]
theorem getD_some {α : Type} (z : α) {l : List α} {k : Nat} (hk : k < l.length) : l[k]? = some (l.getD k z) := by
  rw [List.getD_eq_getElem?_getD, List.getElem?_eq_getElem hk]
  rfl
theorem fields1_asks (l : List Pl.Fd) (kk : Nat) (hk : kk ≤ l.length) (g : Nat) (nm : ByteArray) (W : World) (hg : g < W.heap.size) (hc : W.cell? ⟨g, 0, none⟩ = some (.string nm)) :
    Asks Try.prog 89 #[.pointer (some ⟨g, 0, none⟩)] (fun j => .agg (fdCs (l.getD j default)).toArray) kk (fun j => decide ((l.getD j default).name = nm)) W :=
  fun j _ W' hb => fields1_any (l.getD j default) g nm W' (Nat.lt_of_lt_of_le hg hb.size) ((hb.cell (p := ⟨g, 0, none⟩) hg).trans hc)
theorem anyB_take {α : Type} (p : α → Bool) (z : α) (l : List α) {k : Nat} (hk : k ≤ l.length) : anyB (fun j => p (l.getD j z)) k = (l.take k).any p := by
  have h1 := anyB_list p z (l.take k)
  rw [List.length_take, Nat.min_eq_left hk] at h1
  rw [← h1]
  unfold anyB
  rw [Bool.eq_iff_iff, decide_eq_true_iff, decide_eq_true_iff]
  unfold idxB
  rw [idxFrom_nonneg, idxFrom_nonneg]
  constructor
  · rintro ⟨j, a, b, e⟩
    exact ⟨j, a, b, by rw [getD_take z l (by omega)]; exact e⟩
  · rintro ⟨j, a, b, e⟩
    exact ⟨j, a, b, by rw [getD_take z l (by omega)] at e; exact e⟩
set_option maxHeartbeats 4000000 in
set_option maxRecDepth 10000 in
theorem fields_any (A : Option Addr) (c : Nat) (l : List Pl.Fd) (w : World) (hcap : l.length ≤ c) (hl : fdK.C w A l.length l) :
    Calls Try.prog 59 #[.slice A l.length c] w fun e w' => e = .returned (.int .i64 (fields l)) ∧ Below w.heap.size w w' := by
  have CC := cells_fd hl
  clear hl
  by_cases h8 : 8 < l.length
  · have e8 : (8 : Int) < (l.length : Int) := by omega
    have hu : fields l = 32 := by unfold fields; rw [if_pos h8]
    rw [hu]
    clear hu
    go_enter Try.func59, Try.ntmps59
    go_wp2
    go_ret
    exact ⟨rfl, Below.refl _ _⟩
  have e8 : ¬ (8 : Int) < (l.length : Int) := by omega
  have HU : Hid (firstOn field1 [] l = fields l) := Lib.hid (by unfold fields; rw [if_neg h8])
  generalize hn : l.length = n at *
  have hn9 : n ≤ 8 := by omega
  go_enter Try.func59, Try.ntmps59
  go_wp2
  go_loopw [10] (fun s10 wr => ∃ kk : Nat, kk ≤ n ∧ s10 = .int .i64 kk ∧ Aside0 (Below w.heap.size w wr) ∧ Aside0 (firstOn field1 (l.take kk) (l.drop kk) = fields l)) (fun s _ => n - (intOf s).toNat)
  case atStart => exact ⟨0, Nat.zero_le _, rfl, ⟨Below.refl _ _⟩, ⟨by rw [← HU.out]; rfl⟩⟩
  case round =>
    obtain ⟨kk, hkk, rfl, BW, HL⟩ := hrel
    by_cases hlt : kk < n
    · have hltz : (kk : Int) < (n : Int) := by omega
      have CW := CC.below BW.out
      obtain ⟨ad, rfl, had⟩ := CW.2 (by omega)
      clear had
      generalize hx : l.getD kk default = x
      have HX : Hid (l[kk]? = some x) := Lib.hid (by rw [← hx]; exact getD_some _ (by omega))
      have l0 := CW.at0 hlt (v := .string x.name) (by rw [← hx]; rfl)
      have l1 := CW.at_ hlt (i := 1) (by decide) (v := .int .i64 x.ty.kind) (by rw [← hx]; rfl)
      have l2 := CW.at_ hlt (i := 2) (by decide) (v := .string x.ty.cls) (by rw [← hx]; rfl)
      have l3 := CW.at_ hlt (i := 3) (by decide) (v := .bool x.vol) (by rw [← hx]; rfl)
      clear hx
      have HS : Hid (firstOn field1 (l.take kk) (l.drop kk) = if field1 (l.take kk) x = 0 then firstOn field1 (l.take (kk + 1)) (l.drop (kk + 1)) else field1 (l.take kk) x) := Lib.hid (firstOn_step HX.out)
      have eg := enters_of Try.func89 (by kernel_rfl) rfl
      rcases hb1 : isName x.name with _ | _
      · have H1 := Lib.hid hb1
        have HR : Hid (fields l = 50) := Lib.hid (by
          have h1 : field1 (l.take kk) x = 50 := by unfold field1; rw [if_pos hb1]
          rw [← HL.out, HS.out, h1]; rfl)
        clear hb1
        go_wp2_with (go_at_call 57; (with_reducible refine (isName_is H1 _).mono ?_); rintro e w' ⟨rfl, rfl⟩)
        go_ret
        exact ⟨by rw [HR.out]; rfl, bthen BW.out (balloc _ _)⟩
      rcases hb2 : isType x.ty false with _ | _
      · have H1 := Lib.hid hb1
        have H2 := Lib.hid hb2
        have HR : Hid (fields l = 50) := Lib.hid (by
          have h1 : field1 (l.take kk) x = 50 := by unfold field1; rw [if_neg (by rw [hb1]; decide), if_pos hb2]
          rw [← HL.out, HS.out, h1]; rfl)
        clear hb1 hb2
        go_wp2_with first
          | (go_at_call 57; (with_reducible refine (isName_is H1 _).mono ?_); rintro e w' ⟨rfl, rfl⟩)
          | (go_at_call 87; (with_reducible refine (isType_is H2 _).mono ?_); rintro e w' ⟨rfl, hb⟩)
        go_ret
        exact ⟨by rw [HR.out]; rfl, bthen BW.out (bthen (balloc _ _) hb)⟩
      rcases hb3 : (l.take kk).any (fun o => decide (o.name = x.name)) with _ | _
      all_goals
        have H1 := Lib.hid hb1
        have H2 := Lib.hid hb2
        have H3 : Hid (anyB (fun j => decide ((l.getD j default).name = x.name)) kk = _) := Lib.hid ((anyB_take (fun o => decide (o.name = x.name)) default l (by omega)).trans hb3)
      · have HR : Hid (firstOn field1 (l.take (kk + 1)) (l.drop (kk + 1)) = fields l) := Lib.hid (by
          have h1 : field1 (l.take kk) x = 0 := by unfold field1; rw [if_neg (by rw [hb1]; decide), if_neg (by rw [hb2]; decide), if_neg (by rw [hb3]; decide)]
          rw [← HL.out, HS.out, h1]; rfl)
        clear hb1 hb2 hb3
        go_wp2_with first
          | (go_at_call 57; (with_reducible refine (isName_is H1 _).mono ?_); rintro e w' ⟨rfl, rfl⟩)
          | (go_at_call 87; (with_reducible refine (isType_is H2 _).mono ?_); rintro e w' ⟨rfl, hb⟩; have hB := (Bx.new _ _ _).below hb; have hW := bthen BW.out (bthen (balloc _ _) hb); have hs := hb.size; simp only [World.size_alloc] at hs; clear hb; obtain ⟨c0, c1, c2, c3⟩ := hB.four)
          | fail
        refine (contains_Fd _ _ eg (some ad) kk c _ _ _ ((CC.below hW).cut hkk) (fields1_asks l kk (by omega) wr.heap.size x.name _ (by omega) c0)).mono ?_
        rintro e w' ⟨rfl, hb⟩
        rw [H3.out]
        go_wp2
        go_roundw
        case rel => exact ⟨kk + 1, by omega, by go_num, ⟨bthen hW hb⟩, ⟨HR.out⟩⟩
        case measure => simp [intOf]; omega
      · have HR : Hid (fields l = 53) := Lib.hid (by
          have h1 : field1 (l.take kk) x = 53 := by unfold field1; rw [if_neg (by rw [hb1]; decide), if_neg (by rw [hb2]; decide), if_pos hb3]
          rw [← HL.out, HS.out, h1]; rfl)
        clear hb1 hb2 hb3
        go_wp2_with first
          | (go_at_call 57; (with_reducible refine (isName_is H1 _).mono ?_); rintro e w' ⟨rfl, rfl⟩)
          | (go_at_call 87; (with_reducible refine (isType_is H2 _).mono ?_); rintro e w' ⟨rfl, hb⟩; have hB := (Bx.new _ _ _).below hb; have hW := bthen BW.out (bthen (balloc _ _) hb); have hs := hb.size; simp only [World.size_alloc] at hs; clear hb; obtain ⟨c0, c1, c2, c3⟩ := hB.four)
          | fail
        refine (contains_Fd _ _ eg (some ad) kk c _ _ _ ((CC.below hW).cut hkk) (fields1_asks l kk (by omega) wr.heap.size x.name _ (by omega) c0)).mono ?_
        rintro e w' ⟨rfl, hb⟩
        rw [H3.out]
        go_wp2
        go_ret
        exact ⟨by rw [HR.out]; rfl, bthen hW hb⟩
    · have hltz : ¬ (kk : Int) < (n : Int) := by omega
      have : kk = n := by omega
      subst this
      have HR : Hid (fields l = 0) := Lib.hid (by
        rw [← HL.out, List.drop_of_length_le (by omega)]; rfl)
      go_wp2
      go_ret
      exact ⟨by rw [HR.out]; rfl, BW.out⟩
end Go.Proofs.Ytpdjkclacbgneaa
