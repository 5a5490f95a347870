/- verify's All. -/
import Derived.Test.YtpdjkclacbgneaaVMet2
set_option linter.unusedVariables false
set_option linter.unusedSimpArgs false
namespace Go.Proofs.Ytpdjkclacbgneaa
open Go.RowKit Go.Shelf Go.Proofs.YtpdjkclacbgneaaW.PrintWords Go.Proofs.Ytpdjkclacbgneaa.Pl

theorem OwnStr.cells {B : Nat} {w : World} {v : Value} {l : List Nm} (h : OwnStr B w v l) (hne : 0 < l.length) : ∃ ad cap, v = .slice (some ad) l.length cap ∧ (l.length : Int) ≤ 9223372036854775807 ∧ ∀ (j : Nat) (s : Nm), l[j]? = some s → w.cell? (ad.add j) = some (.string s) := by
  obtain ⟨h0, h⟩ := h
  rcases h with ⟨_, h⟩ | ⟨g, cap, cur, rfl, hb, hh, h1, h2, h3, h4⟩
  · omega
  · refine ⟨_, _, rfl, by unfold maxLen at h2; omega, fun j s hj => ?_⟩
    rw [add_zero_off]
    have hlt := (List.getElem?_eq_some_iff.1 hj).1
    refine Bx.cell ⟨hh⟩ ?_
    have e1 : (l.map Value.string)[j]? = some (.string s) := by rw [List.getElem?_map, hj]; rfl
    rw [← h4, List.getElem?_take, if_pos (by omega)] at e1
    rw [← Array.getElem?_toList]
    exact e1
/-- What the walk asks of a program: each method that a name finds is a method as Method takes it. -/
def AllOk (p : Pg) : Prop := ∀ c nm m, (clsOf p c).methods.find? (fun m => decide (m.name = nm)) = some m → ∃ n, MtOk (clsOf p c) m n ∧ m.locals = n ∧ m.params.length < n ∧ m.code.length ≤ 100000
theorem find_self {l : List Mt} {m : Mt} {j : Nat} (h : l[j]? = some m) : ∃ m', l.find? (fun x => decide (x.name = m.name)) = some m' := by
  have : (l.find? (fun x => decide (x.name = m.name))).isSome = true := by
    rw [List.find?_isSome]
    exact ⟨m, List.mem_of_getElem? h, by simp⟩
  exact Option.isSome_iff_exists.1 this
theorem vmethod_calls {wB : World} {pb : Nat} {p : Pg} (cls name : Nm) (H : ProgIs wB pb p) (HA : AllOk p) {m : Mt} (hm : (clsOf p cls).methods.find? (fun m => decide (m.name = name)) = some m) {k : Nat} {a : Int × List St} (hv : vmethod p k cls name = some a) :
    Calls Try.prog 26 #[.pointer (some ⟨pb, 0, none⟩), .string cls, .string name] wB fun x w' => ∃ v, x = .returned (.tuple #[v, .int .i64 a.1]) ∧ Below wB.heap.size wB w' := by
  obtain ⟨n, h1, h2, h3, h4⟩ := HA cls name m hm
  have hres : passes p (clsOf p cls) m k (vstart p cls m) = some (a.1, a.2) := by
    unfold vmethod at hv
    rw [hm] at hv
    exact hv
  refine (vmethod_any wB pb p cls name H m hm n h1 h2 h3 h4 k a.1 a.2 hres).mono ?_
  rintro x w' ⟨v, h5, h6, _⟩
  exact ⟨v, h5, h6⟩
theorem vallN_step {p : Pg} {k : Nat} {x : Nm} {r : List Nm} {e : Int} (h : vallN p k (x :: r) = some e) : ∃ e1, vallM p k x (clsOf p x).methods = some e1 ∧ (if e1 ≠ 0 then some e1 else vallN p k r) = some e := by
  rw [vallN] at h
  split at h
  · cases h
  · rename_i e1 he
    exact ⟨e1, he, h⟩
theorem vallM_step {p : Pg} {k : Nat} {x : Nm} {m : Mt} {r : List Mt} {e : Int} (h : vallM p k x (m :: r) = some e) : ∃ a, vmethod p k x m.name = some a ∧ (if a.1 ≠ 0 then some a.1 else vallM p k x r) = some e := by
  rw [vallM] at h
  split at h
  · cases h
  · rename_i a he
    exact ⟨a, he, h⟩
theorem drop_at {α : Type} {l : List α} {k : Nat} {x : α} (h : l[k]? = some x) : l.drop k = x :: l.drop (k + 1) := by
  obtain ⟨hk, e⟩ := List.getElem?_eq_some_iff.1 h
  rw [List.drop_eq_getElem_cons hk, e]
set_option maxRecDepth 100000 in
set_option maxHeartbeats 4000000 in
theorem vall_any (wB : World) (pb : Nat) (p : Pg) (H : ProgIs wB pb p) (HA : AllOk p) (hne : 0 < p.h.length) (k : Nat) (e : Int) (hres : vall p k = some e) :
    Calls Try.prog 27 #[.pointer (some ⟨pb, 0, none⟩)] wB fun x w' => x = .returned (.int .i64 e) ∧ Below wB.heap.size wB w' := by
  have HH := Aside0.mk H
  obtain ⟨_, ⟨g, hg, hI⟩, _⟩ := H
  have HHA := Aside0.mk HA
  have HRES := Aside0.mk hres
  have HI := Aside0.mk hI
  have hnl : 0 < (p.h.map (·.1)).length := by rw [List.length_map]; exact hne
  clear hres HA hI
  unfold vall at HRES
  have NA := Aside0.mk (names_any g p.h wB HI.out hne)
  obtain ⟨ns, hns⟩ : ∃ ns, p.h.map (·.1) = ns := ⟨_, rfl⟩
  rw [hns] at HRES NA hnl
  clear hns hne
  go_enter Try.func27, Try.ntmps27
  go_wp2_with fail
  refine (hier_any pb g wB hg).mono ?_
  rintro e0 w' ⟨rfl, rfl⟩
  go_wp2_with fail
  refine NA.out.mono ?_
  rintro e0 w1 ⟨v1, rfl, h1, hb1⟩
  obtain ⟨ad, cap, rfl, hmax, hcells⟩ := h1.cells hnl
  have HC := Aside0.mk hcells
  have HB1 := Aside0.mk hb1
  clear h1 hb1 hg hcells
  go_wp2_with fail
  go_loopw [15] (fun s15 wr => ∃ kk : Nat, kk ≤ ns.length ∧ s15 = .int .i64 kk ∧ Aside0 (Below w1.heap.size w1 wr) ∧ Aside0 (vallN p k (ns.drop kk) = some e)) (fun s15 _ => ns.length - (intOf s15).toNat)
  case atStart => exact ⟨0, Nat.zero_le _, rfl, ⟨Below.refl _ _⟩, HRES⟩
  case round =>
    obtain ⟨kk, hk, rfl, BW, HR⟩ := hrel
    have hk0 : (0 : Int) ≤ (kk : Int) := by omega
    by_cases hlt : kk < ns.length
    · have hltz : (kk : Int) < (ns.length : Int) := by omega
      obtain ⟨x, hx⟩ : ∃ x, ns[kk]? = some x := ⟨_, List.getElem?_eq_getElem hlt⟩
      have hr := HR.out
      rw [drop_at hx] at hr
      obtain ⟨e1, hv1, hv2⟩ := vallN_step hr
      have HV1 := Aside0.mk hv1
      have HV2 := Aside0.mk hv2
      have hl := pw_cell_below BW.out (HC.out kk x hx)
      have BB := Aside0.mk (bthen HB1.out BW.out)
      have HLT := Lib.hid hlt
      obtain ⟨wo, hwo⟩ : ∃ wo : World, wo = wr := ⟨_, rfl⟩
      clear hr hv1 hv2 hlt hx
      go_wp2_with fail
      refine (class_at pb p x wB wr HH.out BB.out).mono ?_
      rintro e2 w3 ⟨cs, rfl, hcl, hb3⟩
      obtain ⟨A0, e0, A1, e1', A2, e2', rfl, _, _, _, r2⟩ := clK_open hcl
      obtain ⟨mc, CM0, KM⟩ := cells_of default r2
      obtain ⟨ms, hms⟩ : ∃ ms, (clsOf p x).methods = ms := ⟨_, rfl⟩
      have HMS := Lib.hid hms
      rw [hms] at HV1 CM0 KM ⊢
      have hmm := CM0.1
      have CM0 : Aside0 (Cells wB A2 ms.length 8 mc) := ⟨CM0⟩
      have KM := Aside0.mk KM
      obtain ⟨w4, hw4⟩ : ∃ w4, w3.alloc (.cells #[.string (clsOf p x).name, .string (clsOf p x).super, .slice A0 (clsOf p x).pool.length e0, .slice A1 (clsOf p x).fields.length e1', .slice A2 ms.length e2'] 72) = w4 := ⟨_, rfl⟩
      have hb4 : Below w3.heap.size w3 w4 := by rw [← hw4]; exact balloc _ _
      have hc4 : w4.heap[w3.heap.size]? = some (.cells #[.string (clsOf p x).name, .string (clsOf p x).super, .slice A0 (clsOf p x).pool.length e0, .slice A1 (clsOf p x).fields.length e1', .slice A2 ms.length e2'] 72 (0, 0)) := by rw [← hw4]; exact blk_new _ _
      obtain ⟨_, _, _, _, cc4⟩ := Bx.five ⟨hc4⟩
      have B4 := Aside0.mk (bthen BW.out (bthen hb3 hb4))
      clear hcl hb3 hb4 r2 hms hc4 hl
      go_wp2_with fail
      clear hw4 cc4
      go_loopw [28] (fun s28 wr => ∃ j : Nat, j ≤ ms.length ∧ s28 = .int .i64 j ∧ Aside0 (Below w1.heap.size w1 wr) ∧ Aside0 (vallM p k x (ms.drop j) = some e1)) (fun s28 _ => ms.length - (intOf s28).toNat)
      case atStart => exact ⟨0, Nat.zero_le _, rfl, B4, HV1⟩
      case round =>
        clear B4 BW BB HV1 hwo
        obtain ⟨j, hj, rfl, BW, HR⟩ := hrel
        have hj0 : (0 : Int) ≤ (j : Int) := by omega
        by_cases hjl : j < ms.length
        · have hjz : (j : Int) < (ms.length : Int) := by omega
          obtain ⟨m, hm⟩ : ∃ m, ms[j]? = some m := ⟨_, List.getElem?_eq_getElem hjl⟩
          have hr := HR.out
          rw [drop_at hm] at hr
          obtain ⟨a, hv1, hv2⟩ := vallM_step hr
          have HVM := Aside0.mk hv1
          have HV3 := Aside0.mk hv2
          have BB := Aside0.mk (bthen HB1.out BW.out)
          have CM3 : Cells wr A2 ms.length 8 mc := CM0.out.below BB.out
          obtain ⟨ae, rfl, _⟩ := CM3.2 (by omega)
          have hm0 := KM.out j hjl
          rw [List.getD_eq_getElem?_getD, hm, Option.getD_some] at hm0
          obtain ⟨B0, d0, B1, d1, B2, d2, hmc, _⟩ := mtK_open hm0
          have x0 := CM3.at0 hjl (v := .string m.name) (by rw [hmc]; rfl)
          have x1 := CM3.at_ (i := 1) hjl (by decide) (v := .slice B0 m.params.length d0) (by rw [hmc]; rfl)
          have x2 := CM3.at_ (i := 2) hjl (by decide) (v := .int .i64 m.ret.kind) (by rw [hmc]; rfl)
          have x3 := CM3.at_ (i := 3) hjl (by decide) (v := .string m.ret.cls) (by rw [hmc]; rfl)
          have x4 := CM3.at_ (i := 4) hjl (by decide) (v := .int .i64 m.locals) (by rw [hmc]; rfl)
          have x5 := CM3.at_ (i := 5) hjl (by decide) (v := .int .i64 m.stack) (by rw [hmc]; rfl)
          have x6 := CM3.at_ (i := 6) hjl (by decide) (v := .slice B1 m.code.length d1) (by rw [hmc]; rfl)
          have x7 := CM3.at_ (i := 7) hjl (by decide) (v := .slice B2 m.handlers.length d2) (by rw [hmc]; rfl)
          obtain ⟨m', hm'⟩ := find_self hm
          obtain ⟨w5, hw5⟩ : ∃ w5, wr.alloc (.cells #[.string m.name, .slice B0 m.params.length d0, .int .i64 m.ret.kind, .string m.ret.cls, .int .i64 m.locals, .int .i64 m.stack, .slice B1 m.code.length d1, .slice B2 m.handlers.length d2] 66) = w5 := ⟨_, rfl⟩
          have hb5 : Below wr.heap.size wr w5 := by rw [← hw5]; exact balloc _ _
          have hm5 : w5.heap[wr.heap.size]? = some (.cells #[.string m.name, .slice B0 m.params.length d0, .int .i64 m.ret.kind, .string m.ret.cls, .int .i64 m.locals, .int .i64 m.stack, .slice B1 m.code.length d1, .slice B2 m.handlers.length d2] 66 (0, 0)) := by rw [← hw5]; exact blk_new _ _
          have y0 : w5.cell? ⟨wr.heap.size, 0, none⟩ = some (.string m.name) := Bx.cell ⟨hm5⟩ (j := 0) rfl
          have MA := Aside0.mk (vmethod_calls x m.name (HH.out.below (bthen BB.out hb5)) HHA.out (m := m') (by rw [HMS.out]; exact hm') HVM.out)
          have B5 := Aside0.mk (bthen BW.out hb5)
          have HJL := Lib.hid hjl
          clear hr hv1 hv2 CM3 hm0 hmc hm hm' hb5 hm5 hjl
          go_wp2_with fail
          refine MA.out.mono ?_
          rintro e3 w6 ⟨v6, rfl, hb6⟩
          have B6 := Aside0.mk (bthen B5.out hb6)
          have hv := HV3.out
          clear x0 x1 x2 x3 x4 x5 x6 x7 y0 hw5 hb6
          by_cases hae : a.1 = 0
          · have hae1 : (a.1 != 0) = false := by rw [hae]; rfl
            rw [if_neg (by rw [hae]; decide)] at hv
            have HV := Aside0.mk hv
            clear hv hae
            go_wp2
            go_roundw
            case rel => exact ⟨j + 1, HJL.out, by go_num, B6, HV⟩
            case measure => have := HJL.out; simp [intOf]; omega
          · have hae1 : (a.1 != 0) = true := by rw [bne_iff_ne]; exact hae
            rw [if_pos hae] at hv
            simp only [Option.some.injEq] at hv
            have hv2 := HV2.out
            rw [← hv, if_pos hae] at hv2
            simp only [Option.some.injEq] at hv2
            have HE := Lib.hid hv2
            clear hv hae hv2
            go_wp2
            go_ret
            exact ⟨by rw [← HE.out]; rfl, bthen HB1.out B6.out⟩
        · have hjz : ¬ (j : Int) < (ms.length : Int) := by omega
          have hr := HR.out
          rw [List.drop_eq_nil_of_le (by omega), vallM] at hr
          simp only [Option.some.injEq] at hr
          have hv2 := HV2.out
          rw [← hr, if_neg (by decide)] at hv2
          have HV := Aside0.mk hv2
          clear hr hv2
          go_wp2
          go_roundw
          case rel => exact ⟨kk + 1, HLT.out, by go_num, BW, HV⟩
          case measure => have := HLT.out; simp [intOf]; omega
    · have hltz : ¬ (kk : Int) < (ns.length : Int) := by omega
      have hr := HR.out
      rw [List.drop_eq_nil_of_le (by omega), vallN] at hr
      simp only [Option.some.injEq] at hr
      have HE := Lib.hid hr
      clear hr
      go_wp2
      go_ret
      exact ⟨by rw [← HE.out]; rfl, bthen HB1.out BW.out⟩
end Go.Proofs.Ytpdjkclacbgneaa
