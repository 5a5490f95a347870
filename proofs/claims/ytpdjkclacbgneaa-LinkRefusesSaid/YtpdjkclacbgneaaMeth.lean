/- (*link.Program).Method. -/
import Derived.Test.YtpdjkclacbgneaaPgm
set_option linter.unusedVariables false
set_option linter.unusedSimpArgs false
namespace Go.Proofs.Ytpdjkclacbgneaa
open Go.RowKit Go.Shelf Go.Proofs.YtpdjkclacbgneaaW.PrintWords Go.Proofs.Ytpdjkclacbgneaa.Pl

theorem methIn_step {p : Pg} {name n : Nm} {r : List Nm} (h : (clsOf p n).methods.find? (fun m => decide (m.name = name)) = none) : methIn p name (n :: r) = methIn p name r := by
  simp [methIn, h]
theorem find_hit {name : Nm} : ∀ {l : List Mt} {j : Nat} {x : Mt}, l[j]? = some x → x.name = name → (l.take j).find? (fun m => decide (m.name = name)) = none → l.find? (fun m => decide (m.name = name)) = some x
  | [], j, x, hx, _, _ => by simp at hx
  | y :: r, 0, x, hx, hp, _ => by
    have : y = x := by simpa using hx
    subst this
    simp [hp]
  | y :: r, j + 1, x, hx, hp, hf => by
    rw [List.take_succ_cons, List.find?_cons] at hf
    split at hf
    · cases hf
    · rename_i hy
      rw [List.find?_cons, hy]
      exact find_hit (by simpa using hx) hp hf
theorem run_methods (a b c d e : Value) (w : World) : (Instr.field 72 (.agg #[a, b, c, d, e]) 4).run Try.prog w = .ok e w := by kernel_rfl
theorem run_fields (a b c d e : Value) (w : World) : (Instr.field 72 (.agg #[a, b, c, d, e]) 3).run Try.prog w = .ok d w := by kernel_rfl
theorem find_more {l : List Mt} {name : Nm} {j : Nat} {x : Mt} (hx : l[j]? = some x) (hp : ¬ x.name = name) (hf : (l.take j).find? (fun m => decide (m.name = name)) = none) : (l.take (j + 1)).find? (fun m => decide (m.name = name)) = none := by
  rw [List.take_add_one, hx, List.find?_append, hf]
  simp [hp]

theorem chain8 {w W : World} {a0 a1 a2 a3 a4 a5 a6 a7 v0 v1 v2 v3 v4 v5 v6 v7 : Value} {t : TypeId} (hb : Below w.heap.size w W) (h : W.heap[w.heap.size]? = some (.cells #[a0, a1, a2, a3, a4, a5, a6, a7] t (0, 0))) :
    Below w.heap.size w ((((((((W.setCell ⟨w.heap.size, 0, none⟩ v0).setCell ⟨w.heap.size, 1, none⟩ v1).setCell ⟨w.heap.size, 2, none⟩ v2).setCell ⟨w.heap.size, 3, none⟩ v3).setCell ⟨w.heap.size, 4, none⟩ v4).setCell ⟨w.heap.size, 5, none⟩ v5).setCell ⟨w.heap.size, 6, none⟩ v6).setCell ⟨w.heap.size, 7, none⟩ v7) ∧
    ((((((((W.setCell ⟨w.heap.size, 0, none⟩ v0).setCell ⟨w.heap.size, 1, none⟩ v1).setCell ⟨w.heap.size, 2, none⟩ v2).setCell ⟨w.heap.size, 3, none⟩ v3).setCell ⟨w.heap.size, 4, none⟩ v4).setCell ⟨w.heap.size, 5, none⟩ v5).setCell ⟨w.heap.size, 6, none⟩ v6).setCell ⟨w.heap.size, 7, none⟩ v7).heap[w.heap.size]? = some (.cells #[v0, v1, v2, v3, v4, v5, v6, v7] t (0, 0)) := by
  refine ⟨?_, ?_⟩
  · have hl := Nat.le_refl w.heap.size
    exact (((((((hb.setCell (p := ⟨w.heap.size, 0, none⟩) hl v0).setCell (p := ⟨w.heap.size, 1, none⟩) hl v1).setCell (p := ⟨w.heap.size, 2, none⟩) hl v2).setCell (p := ⟨w.heap.size, 3, none⟩) hl v3).setCell (p := ⟨w.heap.size, 4, none⟩) hl v4).setCell (p := ⟨w.heap.size, 5, none⟩) hl v5).setCell (p := ⟨w.heap.size, 6, none⟩) hl v6).setCell (p := ⟨w.heap.size, 7, none⟩) hl v7
  · simp [World.setCell, Array.getElem?_modify, h]
set_option maxHeartbeats 400000 in
set_option maxRecDepth 10000 in
theorem meth_at (pb : Nat) (p : Pg) (cls name : Nm) (w0 w : World) (H0 : ProgIs w0 pb p) (hb0 : Below w0.heap.size w0 w) :
    Calls Try.prog 22 #[.pointer (some ⟨pb, 0, none⟩), .string cls, .string name] w fun e w' => ∃ cs, e = .returned (.tuple #[.string (meth p cls name).1, .agg cs.toArray, .bool (meth p cls name).2.2]) ∧ mtK.K w0 (meth p cls name).2.1 cs ∧ Below w.heap.size w w' := by
  have H := H0.below hb0
  have HH := Aside0.mk H
  obtain ⟨hgood, ⟨g, hg, hI⟩, _⟩ := H
  obtain ⟨_, _, b, vs, hbc, hmap, hcls⟩ := H0
  have hT : Try.prog.underlying 91 = some (.map 9 72) := Try.underlying91
  have hKs : Try.prog.underlying 9 = some .string := Try.underlying9
  have hpb := HH.out.lt
  have hrm := run_methods
  have HI := Aside0.mk hI
  have HR : Hid (meth p cls name = methIn p name (ancestors p.h cls)) := Lib.hid rfl
  generalize meth p cls name = res at *
  clear hI
  go_enter Try.func22, Try.ntmps22
  go_wp2_with fail
  refine (ancestors_any g p.h cls _ (HI.out.below (balloc _ _)) (hgood cls)).mono ?_
  rintro e w1 ⟨v, rfl, hrow, hb⟩
  have B := Aside0.mk ((Bx1.new w (.cells #[.string ⟨#[]⟩, .slice none 0 0, .int .i64 0, .string ⟨#[]⟩, .int .i64 0, .int .i64 0, .slice none 0 0, .slice none 0 0] 66)).below hb)
  obtain ⟨A, c, rfl, hc, hC⟩ := Kd.R_reads hrow
  clear hrow hb hg hc
  obtain ⟨ns, hns⟩ : ∃ ns, ancestors p.h cls = ns := ⟨_, rfl⟩
  rw [hns] at hC HR ⊢
  clear hns
  obtain ⟨n, hn⟩ : ∃ n, ns.length = n := ⟨_, rfl⟩
  rw [hn] at hC ⊢
  have HN := Lib.hid hn
  have hmax := hC.2.1
  clear hn
  go_wp2
  go_loopw [20] (fun s20 wr => ∃ kk : Nat, kk ≤ n ∧ s20 = .int .i64 kk ∧ Aside0 (Below w1.heap.size w1 wr) ∧ Aside0 (res = methIn p name (ns.drop kk))) (fun s _ => n - (intOf s).toNat)
  case atStart => exact ⟨0, Nat.zero_le _, rfl, ⟨Below.refl _ _⟩, ⟨HR.out⟩⟩
  case round =>
    obtain ⟨kk, hkk, rfl, BW, HL⟩ := hrel
    have BB := Aside0.mk (B.out.below BW.out)
    have HP := Aside0.mk (HH.out.below BB.out.bel)
    by_cases hlt : kk < n
    · have hltz : (kk : Int) < (n : Int) := by omega
      obtain ⟨x, hx⟩ : ∃ x, ns[kk]? = some x := ⟨ns[kk]'(by have := HN.out; omega), List.getElem?_eq_getElem _⟩
      obtain ⟨ad, rfl, l0⟩ := at_str (Kd.C_below hC BW.out) hx
      have hd : ns.drop kk = x :: ns.drop (kk + 1) := by
        obtain ⟨hk, e⟩ := List.getElem?_eq_some_iff.1 hx
        rw [List.drop_eq_getElem_cons hk, e]
      have HD := Lib.hid hd
      clear hd hx
      have hb1 := pw_cell_below BB.out.bel (pw_cell_below hb0 hbc)
      obtain ⟨cs, hcs, hK⟩ : ∃ cs, Pl.look (.agg zCl.toArray) vs x = .agg cs.toArray ∧ clK.K w0 (clsOf p x) cs := hcls.look x
      obtain ⟨D0, e0, D1, e1, D2, e2, rfl, ⟨k0, k1, k2⟩, r0, r1, r2⟩ := clK_open hK
      have hlk1 := run_look (P := Try.prog) (s := x) ((hmap.below hb0).below BB.out.bel) hT hKs (z := .agg zCl.toArray) (by kernel_rfl) false
      rw [hcs] at hlk1
      simp only [Bool.false_eq_true, if_false] at hlk1
      clear hcs
      have hK : clK.K w0 (clsOf p x) _ := hK
      have r2 : mtK.C w0 D2 (clsOf p x).methods.length (clsOf p x).methods := r2
      obtain ⟨mc, CM, KM⟩ := cells_of default r2
      have KM := Aside0.mk KM
      clear hK r0 r1 r2
      obtain ⟨ms, hms⟩ : ∃ ms, (clsOf p x).methods = ms := ⟨_, rfl⟩
      rw [hms] at hlk1 CM KM k2
      obtain ⟨nm, hnm⟩ : ∃ nm, ms.length = nm := ⟨_, rfl⟩
      rw [hnm] at hlk1 CM k2
      have HMS := Lib.hid hms
      have HNM := Lib.hid hnm
      clear hms
      have hmm := CM.1
      have CM : Cells wr D2 nm 8 mc := (CM.below hb0).below BB.out.bel
      have KM : Aside0 (∀ j, j < nm → mtK.K w0 (ms.getD j default) (mc j)) := ⟨by rw [← hnm]; exact KM.out⟩
      clear hnm
      obtain ⟨w2, hw2⟩ : ∃ w2, w2 = wr := ⟨_, rfl⟩
      rw [← hw2] at CM
      have HP2 : Aside0 (ProgIs w2 pb p) := ⟨by rw [hw2]; exact HP.out⟩
      have BW2 : Aside0 (Below w1.heap.size w1 w2) := ⟨by rw [hw2]; exact BW.out⟩
      have BB2 : Aside0 (Bx1 w w2 (.cells #[.string ⟨#[]⟩, .slice none 0 0, .int .i64 0, .string ⟨#[]⟩, .int .i64 0, .int .i64 0, .slice none 0 0, .slice none 0 0] 66)) := ⟨by rw [hw2]; exact BB.out⟩
      have HE := Lib.hid hw2
      clear hw2 BB HP BW
      go_wp2
      clear l0 hb1 hlk1
      go_loopw [32] (fun s32 wr => ∃ j : Nat, j ≤ nm ∧ s32 = .int .i64 j ∧ Aside0 (Below w2.heap.size w2 wr) ∧ Aside0 ((ms.take j).find? (fun m => decide (m.name = name)) = none)) (fun s _ => nm - (intOf s).toNat)
      case atStart => exact ⟨0, Nat.zero_le _, rfl, ⟨by rw [HE.out]; exact Below.refl _ _⟩, ⟨by simp⟩⟩
      case round =>
        obtain ⟨j, hj, rfl, BV, HF⟩ := hrel
        clear HE
        have CW := CM.below BV.out
        have BB := Aside0.mk (BB2.out.below BV.out)
        have hg0 := BB.out.b0
        by_cases hlt2 : j < nm
        · have hltz2 : (j : Int) < (nm : Int) := by omega
          obtain ⟨ae, rfl, had⟩ := CW.2 (by omega)
          clear had
          have HK := KM.out j hlt2
          generalize hx : ms.getD j default = y at HK
          have HX : Aside0 (ms[j]? = some y) := ⟨by rw [← hx]; exact getD_some _ (by have := HNM.out; omega)⟩
          obtain ⟨B0, d0, B1, d1, B2, d2, hcs, _, _, _, _⟩ := mtK_open HK
          rw [hcs] at HK
          have HK := Aside0.mk HK
          have l0 := CW.at0 hlt2 (v := .string y.name) (by rw [hcs]; rfl)
          have l1 := CW.at_ hlt2 (i := 1) (by decide) (v := .slice B0 y.params.length d0) (by rw [hcs]; rfl)
          have l2 := CW.at_ hlt2 (i := 2) (by decide) (v := .int .i64 y.ret.kind) (by rw [hcs]; rfl)
          have l3 := CW.at_ hlt2 (i := 3) (by decide) (v := .string y.ret.cls) (by rw [hcs]; rfl)
          have l4 := CW.at_ hlt2 (i := 4) (by decide) (v := .int .i64 y.locals) (by rw [hcs]; rfl)
          have l5 := CW.at_ hlt2 (i := 5) (by decide) (v := .int .i64 y.stack) (by rw [hcs]; rfl)
          have l6 := CW.at_ hlt2 (i := 6) (by decide) (v := .slice B1 y.code.length d1) (by rw [hcs]; rfl)
          have l7 := CW.at_ hlt2 (i := 7) (by decide) (v := .slice B2 y.handlers.length d2) (by rw [hcs]; rfl)
          clear hx hcs
          by_cases hq : y.name = name
          · have hRES : res = (x, y, true) := by
              rw [HL.out, HD.out]
              have := find_hit HX.out hq HF.out
              rw [← HMS.out] at this
              simp [methIn, this]
            have HRES := Aside0.mk hRES
            have eq1 := str_eq hq
            clear hRES hq
            obtain ⟨z0, z1, z2, z3, z4, z5, z6, z7⟩ := Bx.eight ⟨hg0⟩
            have hfz : ∀ j, wr.frozen? ⟨w.heap.size, j, none⟩ = false := fun j => by unfold World.frozen?; rw [hg0]; simp
            have hglt := BB.out.lt
            go_wp2_with fail
            go_region
            go_wp2
            rw [HRES.out]
            have hch := chain8 (v0 := .string y.name) (v1 := .slice B0 y.params.length d0) (v2 := .int .i64 y.ret.kind) (v3 := .string y.ret.cls) (v4 := .int .i64 y.locals) (v5 := .int .i64 y.stack) (v6 := .slice B1 y.code.length d1) (v7 := .slice B2 y.handlers.length d2) BB.out.bel hg0
            refine bodyPost_ret (results_tct rfl _ _ _ _ _ _ _ rfl (blk_drew (blk_alloc hch.2 _)) Try.underlying66 rfl (by kernel_rfl)) rfl ?_
            have hbb := below_drew (bthen hch.1 (balloc _ (.cells #[.string y.name, .slice B0 y.params.length d0, .int .i64 y.ret.kind, .string y.ret.cls, .int .i64 y.locals, .int .i64 y.stack, .slice B1 y.code.length d1, .slice B2 y.handlers.length d2] 66)))
            exact ⟨_, rfl, HK.out, hbb⟩
          · have HF2 := Aside0.mk (find_more HX.out hq HF.out)
            have eq1 := str_ne hq
            go_wp2
            go_roundw
            case rel => exact ⟨j + 1, by omega, by go_num, ⟨bthen BV.out (balloc _ _)⟩, HF2⟩
            case measure => simp [intOf]; omega
        · have hltz2 : ¬ (j : Int) < (nm : Int) := by omega
          have hHL : res = methIn p name (ns.drop (kk + 1)) := by
            rw [HL.out, HD.out, methIn_step]
            rw [HMS.out]
            have := HF.out
            rwa [List.take_of_length_le (by have := HNM.out; omega)] at this
          have HL2 := Aside0.mk hHL
          clear hHL
          go_wp2
          go_roundw
          case rel => exact ⟨kk + 1, by omega, by go_num, ⟨bthen BW2.out BV.out⟩, HL2⟩
          case measure => simp [intOf]; omega
    · have hltz : ¬ (kk : Int) < (n : Int) := by omega
      have hRES : res = (nil, default, false) := by
        rw [HL.out, List.drop_of_length_le (by have := HN.out; omega)]
        rfl
      have HRES := Aside0.mk hRES
      have hg0 := BB.out.b0
      clear hRES
      obtain ⟨z0, z1, z2, z3, z4, z5, z6, z7⟩ := Bx.eight ⟨hg0⟩
      have hfz : ∀ j, wr.frozen? ⟨w.heap.size, j, none⟩ = false := fun j => by unfold World.frozen?; rw [hg0]; simp
      have hglt := BB.out.lt
      go_wp2
      have hch := chain8 (v0 := .string ⟨#[]⟩) (v1 := .slice none 0 0) (v2 := .int .i64 0) (v3 := .string ⟨#[]⟩) (v4 := .int .i64 0) (v5 := .int .i64 0) (v6 := .slice none 0 0) (v7 := .slice none 0 0) BB.out.bel hg0
      rw [HRES.out]
      refine bodyPost_ret (results_tct rfl _ _ _ _ _ _ _ rfl hch.2 Try.underlying66 rfl (by kernel_rfl)) rfl ?_
      exact ⟨zMt, rfl, zMt_K _, hch.1⟩
theorem meth_any (pb : Nat) (p : Pg) (cls name : Nm) (w : World) (H : ProgIs w pb p) :
    Calls Try.prog 22 #[.pointer (some ⟨pb, 0, none⟩), .string cls, .string name] w fun e w' => ∃ cs, e = .returned (.tuple #[.string (meth p cls name).1, .agg cs.toArray, .bool (meth p cls name).2.2]) ∧ mtK.K w' (meth p cls name).2.1 cs ∧ Below w.heap.size w w' :=
  (meth_at pb p cls name w w H (Below.refl _ _)).mono fun _ _ ⟨cs, h1, h2, h3⟩ => ⟨cs, h1, mtK.K_below h3 h2, h3⟩
/-- Eight cells stored into a block of the call's own. -/
theorem chain8' {B g : Nat} {w W : World} {a0 a1 a2 a3 a4 a5 a6 a7 v0 v1 v2 v3 v4 v5 v6 v7 : Value} {t : TypeId} (hb : Below B w W) (hl : B ≤ g) (h : W.heap[g]? = some (.cells #[a0, a1, a2, a3, a4, a5, a6, a7] t (0, 0))) :
    Below B w ((((((((W.setCell ⟨g, 0, none⟩ v0).setCell ⟨g, 1, none⟩ v1).setCell ⟨g, 2, none⟩ v2).setCell ⟨g, 3, none⟩ v3).setCell ⟨g, 4, none⟩ v4).setCell ⟨g, 5, none⟩ v5).setCell ⟨g, 6, none⟩ v6).setCell ⟨g, 7, none⟩ v7) ∧
    ((((((((W.setCell ⟨g, 0, none⟩ v0).setCell ⟨g, 1, none⟩ v1).setCell ⟨g, 2, none⟩ v2).setCell ⟨g, 3, none⟩ v3).setCell ⟨g, 4, none⟩ v4).setCell ⟨g, 5, none⟩ v5).setCell ⟨g, 6, none⟩ v6).setCell ⟨g, 7, none⟩ v7).heap[g]? = some (.cells #[v0, v1, v2, v3, v4, v5, v6, v7] t (0, 0)) ∧
    ∀ i, i ≠ g → ((((((((W.setCell ⟨g, 0, none⟩ v0).setCell ⟨g, 1, none⟩ v1).setCell ⟨g, 2, none⟩ v2).setCell ⟨g, 3, none⟩ v3).setCell ⟨g, 4, none⟩ v4).setCell ⟨g, 5, none⟩ v5).setCell ⟨g, 6, none⟩ v6).setCell ⟨g, 7, none⟩ v7).heap[i]? = W.heap[i]? := by
  refine ⟨?_, ?_, fun i hi => ?_⟩
  · exact (((((((hb.setCell (p := ⟨g, 0, none⟩) hl v0).setCell (p := ⟨g, 1, none⟩) hl v1).setCell (p := ⟨g, 2, none⟩) hl v2).setCell (p := ⟨g, 3, none⟩) hl v3).setCell (p := ⟨g, 4, none⟩) hl v4).setCell (p := ⟨g, 5, none⟩) hl v5).setCell (p := ⟨g, 6, none⟩) hl v6).setCell (p := ⟨g, 7, none⟩) hl v7
  · simp [World.setCell, Array.getElem?_modify, h]
  · simp [World.setCell, Array.getElem?_modify, hi.symm]
end Go.Proofs.Ytpdjkclacbgneaa
