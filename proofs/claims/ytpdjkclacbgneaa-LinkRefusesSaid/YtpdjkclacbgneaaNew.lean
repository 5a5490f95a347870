/- types.New. -/
import Derived.Test.YtpdjkclacbgneaaHier
import Derived.Carry
import Derived.StillTailTactics
set_option linter.unusedVariables false
set_option linter.unusedSimpArgs false
namespace Go.Proofs.Ytpdjkclacbgneaa
open Go.RowKit Go.Shelf Go.Proofs.YtpdjkclacbgneaaW.PrintWords Go.Proofs.Ytpdjkclacbgneaa.Pl

theorem R_map {w : World} {e base b : Nat} {ok : Nat → Prop} {v : Value} {xs : List Nm} (h : Kd.string.R e w base ok v xs) {l : List (Nm × Value)} (hm : MapIs w b l) : some b ≠ v.ownBlock := by
  intro he
  obtain ⟨inner, ho⟩ := Kd.R_own h
  obtain ⟨cells, hc⟩ := own_typed ho b he.symm
  obtain ⟨es, clock, h1, _⟩ := hm.out
  rw [hc] at h1
  cases h1
theorem MapIs.kept {w w1 : World} {b : Nat} {l : List (Nm × Value)} (h : MapIs w b l) {row : Option Nat} (hg : w.grownBy w1 row) (hne : some b ≠ row) : MapIs w1 b l := by
  obtain ⟨es, clock, h1, h2⟩ := h.out
  exact ⟨es, clock, (hg.block b h.lt hne).trans h1, h2⟩
theorem put_snoc {l : List (Nm × Value)} {s : Nm} (h : Pl.has l s = false) (u v : Value) : Pl.put (l ++ [(s, u)]) s v = l ++ [(s, v)] := by
  induction l with
  | nil => simp [Pl.put]
  | cons p r ih =>
    obtain ⟨k', x⟩ := p
    by_cases hs : k' = s
    · simp [Pl.has, hs] at h
    · simp only [Pl.has, hs, if_false] at h
      simp only [List.cons_append, Pl.put, hs, if_false, ih h]
/-- The hierarchy that is being made: the block g, its names' row v, its map b. -/
structure NewSt (w W : World) (g b : Nat) (ns : List Nm) (h : Hier) (v : Value) : Prop where
  bel : Below w.heap.size w W
  blk : W.heap[g]? = some (.cells #[v, .map (some b)] 131 (0, 0))
  map : MapIs W b (strV h)
  row : Kd.string.R 9 W w.heap.size (fun _ => True) v ns
  gle : w.heap.size ≤ g
  ble : w.heap.size ≤ b
theorem NewSt.hier {w W : World} {g b : Nat} {h : Hier} {v : Value} (S : NewSt w W g b (h.map (·.1)) h v) (hl : h.length ≤ 18) : HierIs W g h := by
  obtain ⟨A, c, rfl, hc, hC⟩ := Kd.R_reads S.row
  rw [List.length_map] at hc hC
  have e0 : W.cell? ⟨g, 0, none⟩ = some (.slice A h.length c) := by
    have := Bx.cell ⟨S.blk⟩ (j := 0) rfl
    rwa [List.length_map] at this
  exact ⟨hl, ⟨A, c, e0, hc, hC⟩, b, Bx.cell ⟨S.blk⟩ (j := 1) rfl, S.map⟩
theorem NewSt.draw {w W : World} {g b : Nat} {ns : List Nm} {h : Hier} {v : Value} (S : NewSt w W g b ns h v) : NewSt w W.drew g b ns h v := ⟨below_drew S.bel, S.blk, S.map.below (below_drew (Below.refl _ _)), Kd.R_drew S.row, S.gle, S.ble⟩
theorem NewSt.ne {w W : World} {g b : Nat} {ns : List Nm} {h : Hier} {v : Value} (S : NewSt w W g b ns h v) : g ≠ b := by
  rintro rfl
  obtain ⟨es, clock, h1, _⟩ := S.map.out
  rw [S.blk] at h1
  cases h1
/-- A store into the map. -/
theorem NewSt.put {w W : World} {g b : Nat} {ns : List Nm} {h h' : Hier} {v : Value} (S : NewSt w W g b ns h v) {W' : World} (hm : MapIs W' b (strV h')) (hg : W.grownBy W' (some b)) : NewSt w W' g b ns h' v := by
  refine ⟨S.bel.grown hg S.bel.size (fun k e => by cases e; exact S.ble), (hg.block g (blk_lt S.blk) (fun e => S.ne (Option.some.inj e))).trans S.blk, hm, ?_, S.gle, S.ble⟩
  have h2 := Kd.R_grown (Kd.R_bound S.row) hg (by
    rintro k ⟨_, _, _, q, _, cells, hc⟩ e
    cases e
    obtain ⟨es, clock, h1, _⟩ := S.map.out
    rw [hc] at h1
    cases h1)
  exact Kd.R_mono h2 (fun _ _ => trivial)
theorem row_put {w W W' : World} {b : Nat} {v : Value} {ns : List Nm} {l : List (Nm × Value)} (h : Kd.string.R 9 W w.heap.size (fun _ => True) v ns) (hm : MapIs W b l) (hg : W.grownBy W' (some b)) : Kd.string.R 9 W' w.heap.size (fun _ => True) v ns := by
  have h2 := Kd.R_grown (Kd.R_bound h) hg (by
    rintro k ⟨_, _, _, q, _, cells, hc⟩ e
    cases e
    obtain ⟨es, clock, h1, _⟩ := hm.out
    rw [hc] at h1
    cases h1)
  exact Kd.R_mono h2 (fun _ _ => trivial)
/-- A name appended, the row's new place stored. -/
theorem NewSt.app {w W W2 : World} {g b : Nat} {ns : List Nm} {h : Hier} {v v1 : Value} {n : Nm} (S : NewSt w W g b ns h v) (hrow : Kd.string.R 9 W2 w.heap.size (fun _ => True) v1 (ns ++ [n])) (hB : Below w.heap.size w W2) (hg : W.grownBy W2 v.ownBlock) :
    W2.cell? ⟨g, 0, none⟩ = some v ∧ W2.frozen? ⟨g, 0, none⟩ = false ∧ NewSt w (W2.setCell ⟨g, 0, none⟩ v1) g b (ns ++ [n]) h v1 := by
  have hgv : some g ≠ v.ownBlock := Kd.R_ne S.row S.blk (by decide)
  have hbv := R_map S.row S.map
  have hb2 : W2.heap[g]? = some (.cells #[v, .map (some b)] 131 (0, 0)) := (hg.block g (blk_lt S.blk) hgv).trans S.blk
  have hm2 := S.map.kept hg hbv
  refine ⟨Bx.cell ⟨hb2⟩ (j := 0) rfl, ?_, ?_⟩
  · unfold World.frozen?
    rw [hb2]
    rfl
  · refine ⟨hB.setCell (p := ⟨g, 0, none⟩) S.gle _, ?_, ?_, Kd.R_set hrow hb2 (by decide) 0 v1, S.gle, S.ble⟩
    · simp [World.setCell, Array.getElem?_modify, hb2]
    · obtain ⟨es, clock, h1, h2⟩ := hm2.out
      exact ⟨es, clock, (Below.heap_setCell W2 ⟨g, 0, none⟩ v1 b (fun e => S.ne e.symm)).trans h1, h2⟩
theorem grow_step {h : Hier} {n u : Nm} {r : List (Nm × Nm)} (h1 : isName n = true) (h2 : Pl.has h n = false) : grow h ((n, u) :: r) = grow (h ++ [(n, if u.size = 0 then nObject else u)]) r := by
  simp [grow, h1, h2]
theorem strV_snoc (h : Hier) (n u : Nm) : strV (h ++ [(n, u)]) = strV h ++ [(n, .string u)] := by simp [strV]
theorem at_str {w : World} {A : Option Addr} {n k : Nat} {xs : List Nm} {s : Nm} (h : Kd.string.C w A n xs) (hk : xs[k]? = some s) : ∃ ad, A = some ad ∧ w.cell? (ad.add k) = some (.string s) := by
  have hl := (List.getElem?_eq_some_iff.1 hk).1
  have hn : k < n := by have := h.1; omega
  obtain ⟨ad, e, hc⟩ := Kd.at_string h (k : Int) (by omega) (by omega)
  refine ⟨ad, e, ?_⟩
  rw [Int.toNat_natCast] at hc
  rw [hc]
  unfold rdOf
  rw [Int.toNat_natCast, List.getD_eq_getElem?_getD, hk]
  rfl

set_option maxHeartbeats 400000 in
set_option maxRecDepth 10000 in
theorem new_any (l : List (Nm × Nm)) (A A' : Option Addr) (c c' : Nat) (w : World) (hN : Kd.string.C w A l.length (l.map (·.1))) (hS : Kd.string.C w A' l.length (l.map (·.2))) :
    Calls Try.prog 32 #[.slice A l.length c, .slice A' l.length c'] w fun e w' => ∃ p, e = .returned (.tuple #[.pointer p, .int .i64 (Pl.hier l).1]) ∧ ((Pl.hier l).1 = 0 → ∃ g, p = some ⟨g, 0, none⟩ ∧ HierIs w' g (Pl.hier l).2) ∧ ((Pl.hier l).1 ≠ 0 → p = none) ∧ Below w.heap.size w w' := by
  obtain ⟨n, hn⟩ : ∃ n, l.length = n := ⟨_, rfl⟩
  rw [hn] at hN hS ⊢
  have HN := Lib.hid hn
  clear hn
  by_cases h16 : 16 < n
  · have z16 : (16 : Int) < (n : Int) := by omega
    have HR : Hid (Pl.hier l = (32, [])) := Lib.hid (by unfold Pl.hier; rw [if_pos (by rw [HN.out]; exact h16)])
    go_enter Try.func32, Try.ntmps32
    go_wp2
    go_ret2
    rw [HR.out]
    exact ⟨_, rfl, fun h => absurd h (by decide), fun _ => rfl, Below.refl _ _⟩
  have z16 : ¬ (16 : Int) < (n : Int) := by omega
  have HU : Hid (Pl.hier l = let g := grow hier0 l
    if g.1 ≠ 0 then (g.1, [])
    else if l.any (fun p => !Pl.has g.2 (sup g.2 p.1)) = true then (70, [])
    else if l.any (fun p => Pl.round g.2 (g.2.length + 1) p.1) = true then (71, [])
    else (0, g.2)) := Lib.hid (by unfold Pl.hier; rw [if_neg (by rw [HN.out]; exact h16)])
  generalize Pl.hier l = res at *
  have hmm := @run_makeMap Try.prog
  have hT : Try.prog.underlying 102 = some (.map 9 9) := Try.underlying102
  have hK : Try.prog.underlying 9 = some .string := Try.underlying9
  go_enter Try.func32, Try.ntmps32
  go_wp2
  have hm0 : MapIs ((w.alloc (.cells #[.string nObject, .string nFault] 9)).alloc (.map #[] 0)) (w.heap.size + 1) [] := by
    have := MapIs.made (w.alloc (.cells #[.string nObject, .string nFault] 9))
    rwa [World.size_alloc] at this
  obtain ⟨w1, hr1, hm1, hg1⟩ := run_put (P := Try.prog) (s := nObject) hm0 hT hK (.string nil)
  obtain ⟨w2, hr2, hm2, hg2⟩ := run_put (P := Try.prog) (s := nFault) hm1 hT hK (.string nObject)
  have hr1' := hr1
  have hr2' := hr2
  clear hr1 hr2
  unfold nObject nil nFault at hr1'
  unfold nFault nObject at hr2'
  rw [hr1']
  go_wp2
  have S0 : NewSt w (w2.alloc (.cells #[.slice (some ⟨w.heap.size, 0, none⟩) 2 2, .map (some (w.heap.size + 1))] 131)) w2.heap.size (w.heap.size + 1) (hier0.map (·.1)) hier0 (.slice (some ⟨w.heap.size, 0, none⟩) 2 2) := by
    have hlit := World.ownsRow_lit (base := w.heap.size) (e := 9) (size := 1) w #[.string nObject, .string nFault] 2 (Nat.le_refl _) (by decide) (by simp)
    have r0 : Kd.string.R 9 (w.alloc (.cells #[.string nObject, .string nFault] 9)) w.heap.size (fun _ => True) (.slice (some ⟨w.heap.size, 0, none⟩) 2 2) [nObject, nFault] := Kd.R_of_own (xs := [nObject, nFault]) (by simpa [encs] using hlit) (fun _ _ => trivial)
    have r1 := row_put (Kd.R_alloc r0 (.map #[] 0)) hm0 hg1
    have r2 := row_put r1 hm1 hg2
    have b0 : Below w.heap.size w ((w.alloc (.cells #[.string nObject, .string nFault] 9)).alloc (.map #[] 0)) := bthen (balloc _ _) (balloc _ _)
    have b1 := b0.grown hg1 b0.size (fun k e => by cases e; omega)
    have b2 := b1.grown hg2 b1.size (fun k e => by cases e; omega)
    refine ⟨bthen b2 (balloc _ _), blk_new _ _, ?_, Kd.R_alloc r2 _, b2.size, by omega⟩
    have h3 : Pl.put (Pl.put [] nObject (.string nil)) nFault (.string nObject) = strV hier0 := by
      have : ¬ nObject = nFault := by decide
      simp [Pl.put, strV, hier0, this]
    rw [h3] at hm2
    exact hm2.below (balloc _ _)
  generalize hgg : w2.heap.size = g at *
  generalize w2.alloc (.cells #[.slice (some ⟨w.heap.size, 0, none⟩) 2 2, .map (some (w.heap.size + 1))] 131) = w3 at *
  clear hr1' hr2' hm1 hm2 hg1 hg2 hm0 hgg
  have HB : Hid (w.heap.size + 1 = w.heap.size + 1) := Lib.hid rfl
  go_loopw [30] (fun s30 wr => ∃ (kk : Nat) (h : Hier) (v : Value), kk ≤ n ∧ s30 = .int .i64 kk ∧ Aside0 (NewSt w wr g (w.heap.size + 1) (h.map (·.1)) h v) ∧ Aside0 (grow hier0 l = grow h (l.drop kk)) ∧ Aside0 (h.length = 2 + kk)) (fun s _ => n - (intOf s).toNat)
  case atStart => exact ⟨0, hier0, _, Nat.zero_le _, rfl, ⟨S0⟩, ⟨rfl⟩, ⟨rfl⟩⟩
  case round =>
    clear S0
    obtain ⟨kk, h, v, hkk, rfl, S, HG, HL⟩ := hrel
    by_cases hlt : kk < n
    · have hltz : (kk : Int) < (n : Int) := by omega
      obtain ⟨x, hx⟩ : ∃ x, l[kk]? = some x := ⟨l[kk]'(by have := HN.out; omega), List.getElem?_eq_getElem _⟩
      obtain ⟨nm, su⟩ := x
      have hx1 : (l.map (·.1))[kk]? = some nm := by rw [List.getElem?_map, hx]; rfl
      have hx2 : (l.map (·.2))[kk]? = some su := by rw [List.getElem?_map, hx]; rfl
      obtain ⟨ad, rfl, l0⟩ := at_str (Kd.C_below hN S.out.bel) hx1
      have HX1 := Aside0.mk hx1
      have HX2 := Aside0.mk hx2
      have hd : l.drop kk = (nm, su) :: l.drop (kk + 1) := by
        obtain ⟨hk, e⟩ := List.getElem?_eq_some_iff.1 hx
        rw [List.drop_eq_getElem_cons hk, e]
      clear hx hx1 hx2
      have HG1 := Aside0.mk (HG.out.trans (by rw [hd]))
      clear HG hd
      rcases hq1 : isName nm with _ | _
      · have H1 := Lib.hid hq1
        have HR : Hid (res = (50, [])) := Lib.hid (by
          have h1 : grow hier0 l = (50, h) := by rw [HG1.out]; simp [grow, hq1]
          rw [HU.out, h1]; rfl)
        clear hq1 HU HG1
        go_wp2_with (go_at_call 57; (with_reducible refine (isName_is H1 _).mono ?_); rintro e w' ⟨rfl, rfl⟩)
        go_ret2
        rw [HR.out]
        exact ⟨_, rfl, fun h => absurd h (by decide), fun _ => rfl, S.out.bel⟩
      have hh : h.length ≤ 18 := by have := HL.out; omega
      have HI := Aside0.mk (S.out.hier hh)
      rcases hq2 : Pl.has h nm with _ | _
      rotate_left
      · have H1 := Lib.hid hq1
        have H2 := Aside0.mk hq2
        have HR : Hid (res = (53, [])) := Lib.hid (by
          have h1 : grow hier0 l = (53, h) := by rw [HG1.out]; simp [grow, hq1, hq2]
          rw [HU.out, h1]; rfl)
        clear hq1 hq2 HU HG1
        go_wp2_with first
          | (go_at_call 57; (with_reducible refine (isName_is H1 _).mono ?_); rintro e w' ⟨rfl, rfl⟩)
          | (go_at_call 39; (refine (has_is HI.out H2.out).mono ?_); rintro e w' ⟨rfl, rfl⟩)
        go_ret2
        rw [HR.out]
        exact ⟨_, rfl, fun h => absurd h (by decide), fun _ => rfl, S.out.bel⟩
      have H1 := Lib.hid hq1
      have H2 := Aside0.mk hq2
      have HG2 : Aside0 (grow hier0 l = grow (h ++ [(nm, if su.size = 0 then nObject else su)]) (l.drop (kk + 1))) := ⟨by rw [HG1.out, grow_step hq1 hq2]⟩
      clear hq1 hq2 HG1
      obtain ⟨A0, c1, hv⟩ := Kd.R_slice S.out.row
      rw [List.length_map] at hv
      subst hv
      have x0 : wr.cell? ⟨g, 0, none⟩ = some (.slice A0 h.length c1) := Bx.cell ⟨S.out.blk⟩ (j := 0) rfl
      have x1 : wr.cell? ⟨g, 1, none⟩ = some (.map (some (w.heap.size + 1))) := Bx.cell ⟨S.out.blk⟩ (j := 1) rfl
      have hgl := blk_lt S.out.blk
      have hst : Try.prog.underlying 55 = some (.slice 9) := Try.underlying55
      have hBs : w.heap.size ≤ wr.heap.size := S.out.bel.size
      go_wp2_with first
        | (go_at_call 57; (with_reducible refine (isName_is H1 _).mono ?_); rintro e w' ⟨rfl, rfl⟩)
        | (go_at_call 39; (refine (has_is HI.out H2.out).mono ?_); rintro e w' ⟨rfl, rfl⟩)
        | (at_builtin; go_must (refine Kd.R_append Kd.string (w0 := w) w.heap.size rfl _ _ 55 9 (.string ⟨#[]⟩) 16 rfl hst strInfo rfl (by decide) (by decide) (.slice A0 h.length c1) (h.map (·.1)) nm [.string nm] (fun _ => True) (fun _ => False) rfl rfl rfl (fun _ h => h.elim) (fun _ _ => trivial) S.out.row ?cB hBs ?cl ?ch))
      case cB => exact S.out.bel
      case cl => rw [List.length_map]; omega
      case ch =>
        intro v1 w4 hrow hB4 hg4 hat
        clear hat x0 x1
        obtain ⟨y0, f0, S1⟩ := S.out.app hrow hB4 hg4
        have S1 := Aside0.mk S1
        have HROW := Aside0.mk hrow
        obtain ⟨A2, c2, hv⟩ := Kd.R_slice hrow
        have hlen1 : (h.map (·.1) ++ [nm]).length = h.length + 1 := by simp
        rw [hlen1] at hv
        subst hv
        clear hrow hB4 hg4 l0 hlen1
        go_wp2_with fail
        obtain ⟨W5, hW5⟩ : ∃ W5, W5 = w4.setCell ⟨g, 0, none⟩ (.slice A2 (h.length + 1) c2) := ⟨_, rfl⟩
        rw [← hW5] at S1
        rw [← hW5]
        clear hW5 y0 f0 HROW
        have x1 : W5.cell? ⟨g, 1, none⟩ = some (.map (some (w.heap.size + 1))) := Bx.cell ⟨S1.out.blk⟩ (j := 1) rfl
        obtain ⟨ae, rfl, l1⟩ := at_str (Kd.C_below hS S1.out.bel) HX2.out
        have x1' : ({ heap := W5.heap, tape := W5.tape, drawn := W5.drawn + 1, os := W5.os, output := W5.output } : World).cell? ⟨g, 1, none⟩ = some (.map (some (w.heap.size + 1))) := x1
        have l1' : ({ heap := W5.heap, tape := W5.tape, drawn := W5.drawn + 1, os := W5.os, output := W5.output } : World).cell? (ae.add kk) = some (.string su) := l1
        obtain ⟨W6, hr3, hm3, hg3⟩ := run_put (P := Try.prog) (s := nm) S1.out.draw.map hT hK (.string su)
        have hr3' : (Instr.mapUpdate 102 (.map (some (w.heap.size + 1))) (.string nm) (.string su)).run Try.prog ({ heap := W5.heap, tape := W5.tape, drawn := W5.drawn + 1, os := W5.os, output := W5.output } : World) = .ok () W6 := hr3
        have hhas : Pl.has (strV h) nm = false := by rw [has_strV]; exact H2.out
        have hm3' : MapIs W6 (w.heap.size + 1) (strV (h ++ [(nm, su)])) := by rw [strV_snoc, ← put_new hhas]; exact hm3
        have S3 := Aside0.mk (S1.out.draw.put hm3' hg3)
        go_still_tail 9, (by kernel_rfl)
        clear x1 x1' l1 l1' hm3 hm3' hg3 hN
        have x1 : W6.cell? ⟨g, 1, none⟩ = some (.map (some (w.heap.size + 1))) := Bx.cell ⟨S3.out.blk⟩ (j := 1) rfl
        obtain ⟨ae', hae, l1⟩ := at_str (Kd.C_below hS S3.out.bel) HX2.out
        cases hae
        by_cases hz : su.size = 0
        · have e1 := str_zero hz
          obtain ⟨W7, hr4, hm4, hg4⟩ := run_put (P := Try.prog) (s := nm) S3.out.map hT hK (.string nObject)
          have hm4' : MapIs W7 (w.heap.size + 1) (strV (h ++ [(nm, nObject)])) := by
            rw [strV_snoc] at hm4
            rw [strV_snoc, ← put_snoc hhas (.string su) (.string nObject)]
            exact hm4
          have S4 := Aside0.mk (S3.out.put hm4' hg4)
          unfold nObject at hr4
          rw [if_pos hz] at HG2
          go_wp2
          go_roundw
          case rel => exact ⟨kk + 1, h ++ [(nm, nObject)], _, by omega, by go_num, ⟨by rw [List.map_append]; exact S4.out⟩, HG2, ⟨by simp; have := HL.out; omega⟩⟩
          case measure => simp [intOf]; omega
        · have e1 := str_some hz
          rw [if_neg hz] at HG2
          go_wp2
          go_roundw
          case rel => exact ⟨kk + 1, h ++ [(nm, su)], _, by omega, by go_num, ⟨by rw [List.map_append]; exact S3.out⟩, HG2, ⟨by simp; have := HL.out; omega⟩⟩
          case measure => simp [intOf]; omega
    · have hltz : ¬ (kk : Int) < (n : Int) := by omega
      have hkn : kk = n := by omega
      subst hkn
      have hgr : grow hier0 l = (0, h) := by
        rw [HG.out, List.drop_of_length_le (by have := HN.out; omega)]
        rfl
      have HU1 : Hid (res = if l.any (fun p => !Pl.has h (sup h p.1)) = true then (70, [])
          else if l.any (fun p => Pl.round h (h.length + 1) p.1) = true then (71, [])
          else (0, h)) := Lib.hid (by rw [HU.out, hgr]; rfl)
      clear HU HG hgr
      have hh : h.length ≤ 18 := by have := HL.out; omega
      obtain ⟨w5, hw5⟩ : ∃ w5, w5 = wr := ⟨_, rfl⟩
      have HI : Aside0 (HierIs w5 g h) := ⟨by rw [hw5]; exact S.out.hier hh⟩
      have HW : Aside0 (Below w.heap.size w w5) := ⟨by rw [hw5]; exact S.out.bel⟩
      have HE := Lib.hid hw5
      clear S HL hw5
      go_wp2
      go_loopw [75] (fun s75 wr => ∃ j : Nat, j ≤ kk ∧ s75 = .int .i64 j ∧ Aside0 (wr = w5) ∧ Aside0 (∀ p, p ∈ l.take j → Pl.has h (sup h p.1) = true)) (fun s _ => kk - (intOf s).toNat)
      case atStart => exact ⟨0, Nat.zero_le _, rfl, ⟨HE.out.symm⟩, ⟨fun p hp => by simp at hp⟩⟩
      case round =>
        obtain ⟨j, hj, rfl, HQ, HA⟩ := hrel
        have hq := HQ.out
        clear HQ HE
        subst hq
        obtain ⟨_, _, b, hb, hmb⟩ := HI.out
        by_cases hlt : j < kk
        · have hltz : (j : Int) < (kk : Int) := by omega
          obtain ⟨x, hx⟩ : ∃ x, l[j]? = some x := ⟨l[j]'(by have := HN.out; omega), List.getElem?_eq_getElem _⟩
          have hx1 : (l.map (·.1))[j]? = some x.1 := by rw [List.getElem?_map, hx]; rfl
          obtain ⟨ad, rfl, l0⟩ := at_str (Kd.C_below hN HW.out) hx1
          have HX := Aside0.mk hx
          clear hx hx1
          have hl := run_look (P := Try.prog) (s := x.1) hmb hT hK (z := .string ⟨#[]⟩) (by kernel_rfl) false
          rw [look_strV] at hl
          simp only [Bool.false_eq_true, if_false] at hl
          rcases hq : Pl.has h (sup h x.1) with _ | _
          · have HR : Hid (res = (70, [])) := Lib.hid (by
              rw [HU1.out, if_pos]
              rw [List.any_eq_true]
              exact ⟨x, List.mem_of_getElem? HX.out, by rw [hq]; rfl⟩)
            have HQ := Aside0.mk hq
            clear HU1 hq
            go_wp2_with (go_at_call 39; (refine (has_is HI.out HQ.out).mono ?_); rintro e w' ⟨rfl, rfl⟩)
            go_ret2
            rw [HR.out]
            exact ⟨_, rfl, fun h => absurd h (by decide), fun _ => rfl, HW.out⟩
          · have HQ := Aside0.mk hq
            have HA2 : Aside0 (∀ p, p ∈ l.take (j + 1) → Pl.has h (sup h p.1) = true) := ⟨fun p hp => by
              rw [List.take_add_one, HX.out] at hp
              rcases List.mem_append.1 hp with hp | hp
              · exact HA.out p hp
              · have hpx : p = x := by simpa using hp
                rw [hpx]; exact HQ.out⟩
            clear hq
            go_wp2_with (go_at_call 39; (refine (has_is HI.out HQ.out).mono ?_); rintro e w' ⟨rfl, rfl⟩)
            go_roundw
            case rel => exact ⟨j + 1, by omega, by go_num, ⟨by first | rfl | trivial⟩, HA2⟩
            case measure => simp [intOf]; omega
        · have hltz : ¬ (j : Int) < (kk : Int) := by omega
          have hjk : j = kk := by omega
          subst hjk
          have HU2 : Hid (res = if l.any (fun p => Pl.round h (h.length + 1) p.1) = true then (71, []) else (0, h)) := Lib.hid (by
            rw [HU1.out, if_neg]
            rw [Bool.not_eq_true, List.any_eq_false]
            intro p hp
            have := HA.out p (by rw [List.take_of_length_le (by have := HN.out; omega)]; exact hp)
            rw [this]
            decide)
          clear HU1 HA hltz hlt hj hkk hb hmb
          obtain ⟨w6, hw6⟩ : ∃ w6, w6 = wr := ⟨_, rfl⟩
          have HI6 : Aside0 (HierIs w6 g h) := ⟨by rw [hw6]; exact HI.out⟩
          have HW6 : Aside0 (Below w.heap.size w w6) := ⟨by rw [hw6]; exact HW.out⟩
          have HE := Lib.hid hw6
          clear HI HW hw6
          go_wp2
          go_loopw [91] (fun s91 wr => ∃ i : Nat, i ≤ j ∧ s91 = .int .i64 i ∧ Aside0 (wr = w6) ∧ Aside0 (∀ p, p ∈ l.take i → Pl.round h (h.length + 1) p.1 = false)) (fun s _ => j - (intOf s).toNat)
          case atStart => exact ⟨0, Nat.zero_le _, rfl, ⟨HE.out.symm⟩, ⟨fun p hp => by simp at hp⟩⟩
          case round =>
            obtain ⟨i, hi, rfl, HQ, HA⟩ := hrel
            have hq := HQ.out
            clear HQ HE
            subst hq
            by_cases hlt : i < j
            · have hltz : (i : Int) < (j : Int) := by omega
              obtain ⟨x, hx⟩ : ∃ x, l[i]? = some x := ⟨l[i]'(by have := HN.out; omega), List.getElem?_eq_getElem _⟩
              have hx1 : (l.map (·.1))[i]? = some x.1 := by rw [List.getElem?_map, hx]; rfl
              obtain ⟨ad, rfl, l0⟩ := at_str (Kd.C_below hN HW6.out) hx1
              have HX := Aside0.mk hx
              clear hx hx1
              rcases hq : Pl.round h (h.length + 1) x.1 with _ | _
              rotate_left
              · have HR : Hid (res = (71, [])) := Lib.hid (by
                  rw [HU2.out, if_pos]
                  rw [List.any_eq_true]
                  exact ⟨x, List.mem_of_getElem? HX.out, hq⟩)
                have HQ := Aside0.mk hq
                clear HU2 hq
                go_wp2_with (go_at_call 61; (refine (round_is HI6.out HQ.out).mono ?_); rintro e w' ⟨rfl, rfl⟩)
                go_ret2
                rw [HR.out]
                exact ⟨_, rfl, fun h => absurd h (by decide), fun _ => rfl, HW6.out⟩
              · have HQ := Aside0.mk hq
                have HA2 : Aside0 (∀ p, p ∈ l.take (i + 1) → Pl.round h (h.length + 1) p.1 = false) := ⟨fun p hp => by
                  rw [List.take_add_one, HX.out] at hp
                  rcases List.mem_append.1 hp with hp | hp
                  · exact HA.out p hp
                  · have hpx : p = x := by simpa using hp
                    rw [hpx]; exact HQ.out⟩
                clear hq
                go_wp2_with (go_at_call 61; (refine (round_is HI6.out HQ.out).mono ?_); rintro e w' ⟨rfl, rfl⟩)
                go_roundw
                case rel => exact ⟨i + 1, by omega, by go_num, ⟨by first | rfl | trivial⟩, HA2⟩
                case measure => simp [intOf]; omega
            · have hltz : ¬ (i : Int) < (j : Int) := by omega
              have hij : i = j := by omega
              subst hij
              have HR : Hid (res = (0, h)) := Lib.hid (by
                rw [HU2.out, if_neg]
                rw [Bool.not_eq_true, List.any_eq_false]
                intro p hp
                have := HA.out p (by rw [List.take_of_length_le (by have := HN.out; omega)]; exact hp)
                rw [this]
                decide)
              go_wp2
              go_ret2
              rw [HR.out]
              exact ⟨_, rfl, fun _ => ⟨g, rfl, HI6.out⟩, fun h => absurd rfl h, HW6.out⟩
end Go.Proofs.Ytpdjkclacbgneaa
