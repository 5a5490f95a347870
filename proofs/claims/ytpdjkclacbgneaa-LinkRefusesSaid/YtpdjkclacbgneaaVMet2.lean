/- verify's Method. -/
import Derived.Test.YtpdjkclacbgneaaVMet1
import Derived.Deep.LoopGhost
set_option linter.unusedVariables false
set_option linter.unusedSimpArgs false
namespace Go.Proofs.Ytpdjkclacbgneaa
open Go.RowKit Go.Shelf Go.Proofs.YtpdjkclacbgneaaW.PrintWords Go.Proofs.Ytpdjkclacbgneaa.Pl

set_option maxRecDepth 10000 in
set_option maxHeartbeats 400000 in
theorem names_any (g : Nat) (h : Hier) (w : World) (H : HierIs w g h) (hne : 0 < h.length) :
    Calls Try.prog 55 #[.pointer (some ⟨g, 0, none⟩)] w fun e w' => ∃ v1, e = .returned v1 ∧ OwnStr w.heap.size w' v1 (h.map (·.1)) ∧ Below w.heap.size w w' := by
  obtain ⟨h0, ⟨A, c, hA, hc, hC⟩, _⟩ := H
  have hC' : Kd.string.C w A (h.map (·.1)).length (h.map (·.1)) := by rw [List.length_map]; exact hC
  have hs : A.isSome = true := by
    obtain ⟨ad, rfl, _⟩ := hC.2.2 hne
    rfl
  have CL := cloneStr_any A c (h.map (·.1)) w hC' hs (by rw [List.length_map]; omega)
  rw [List.length_map] at CL
  have CL := Aside0.mk CL
  clear hC hC' hs
  go_enter Try.func55, Try.ntmps55
  go_wp2_with fail
  refine CL.out.mono ?_
  rintro e w' ⟨v1, rfl, h1, h2⟩
  go_wp2
  go_ret
  exact ⟨_, rfl, h1, h2⟩
open Classical in
/-- A scope whose code jumps back to one label; the proof's own number is lowered by each pass. -/
theorem wp_scope_ghost {P : Program} {a : Act} {w : World} {Q : Exit → Act → World → Prop} {c r : Code} (l : Nat) (J : Nat → Act → World → Prop) (hf : findLabel c l = some (Code.skip.seq r))
    (pass : ∀ n a w, J n a w → r.wp P (Exit.jump l (fun a' w' => ∃ n', n' < n ∧ J n' a' w') Q) a w)
    (first : (∀ n a w, J n a w → r.wp P (Exit.jump l (fun a w => ∃ n, J n a w) Q) a w) → c.wp P (Exit.jump l (fun a w => ∃ n, J n a w) Q) a w) : (Code.scope c).wp P Q a w := by
  refine wp_scope_once l (fun a w => ∃ n, J n a w) (fun a w => leastOf (fun n => J n a w)) hf ?_ ?_
  · intro a w hJ
    refine wp_mono (pass _ a w (leastOf_spec hJ).1) (Exit.jump_mono ?_)
    rintro a' w' ⟨n', hlt, hJ'⟩
    exact ⟨⟨n', hJ'⟩, Nat.lt_of_le_of_lt ((leastOf_spec ⟨n', hJ'⟩).2 n' hJ') hlt⟩
  · intro hp
    exact first fun n a w hJ => hp a w ⟨n, hJ⟩
/-- What Method leaves. -/
def MethPost (wB : World) (pb : Nat) (p : Pg) (c : Cl) (m : Mt) (e : Int) (L : List St) (x : Ending) (w' : World) : Prop :=
  ∃ v, x = .returned (.tuple #[v, .int .i64 e]) ∧ Below wB.heap.size wB w' ∧ (e = 0 → ∃ fb lb ch, v = .slice (some ⟨lb, 0, none⟩) L.length L.length ∧ FlowAt wB w' fb lb pb p c m L ch) ∧ (e ≠ 0 → v = .slice none 0 0)
theorem find_idx {name : Nm} : ∀ (l : List Mt) (m : Mt), l.find? (fun m => decide (m.name = name)) = some m → ∃ k, k < l.length ∧ l.getD k default = m ∧ (∀ j, j < k → decide ((l.getD j default).name = name) = false) ∧ decide ((l.getD k default).name = name) = true
  | [], m, h => by simp at h
  | y :: r, m, h => by
    rw [List.find?_cons] at h
    split at h
    · rename_i hy
      cases h
      exact ⟨0, by simp, rfl, fun j hj => absurd hj (Nat.not_lt_zero j), hy⟩
    · rename_i hy
      obtain ⟨k, h1, h2, h3, h4⟩ := find_idx r m h
      refine ⟨k + 1, by simp; omega, h2, fun j hj => ?_, h4⟩
      cases j with
      | zero => simpa using hy
      | succ j => exact h3 j (by omega)
/-- At the label of Method: so many passes are to come at most. -/
def PMeth (wB : World) (pb : Nat) (p : Pg) (c : Cl) (m : Mt) (n : Nat) (e : Int) (L : List St) (k : Nat) (a : Act) (w : World) : Prop :=
  ∃ (fb lb mb : Nat) (l : List St) (ch : Bool) (B0 B1 B2 : Option Addr) (d0 d1 d2 : Nat) (u0 u1 u2 u3 u4 u5 u6 u7 u8 u9 u10 u13 u14 u15 u16 u17 u18 u19 u20 u21 u22 u23 u24 u25 u26 u27 u28 u29 u30 u31 u32 u33 u34 u35 u36 u37 u38 u39 u40 u41 u42 u43 u44 u45 u46 u47 u48 u49 u50 u51 u52 u53 u54 u55 u56 u57 u58 u59 u60 u61 u62 u63 u64 u65 u66 u67 u68 u69 u70 u71 u72 u73 u74 u75 u76 u77 u78 : Value), a = { tmps := #[u0, u1, u2, u3, u4, u5, u6, u7, u8, u9, u10, .pointer (some ⟨mb, 0, none⟩), .pointer (some ⟨fb, 0, none⟩), u13, u14, u15, u16, u17, u18, u19, u20, u21, u22, u23, u24, u25, u26, u27, u28, u29, u30, u31, u32, u33, u34, u35, u36, u37, u38, u39, u40, u41, u42, u43, u44, u45, u46, u47, u48, u49, u50, u51, u52, u53, u54, u55, u56, u57, u58, u59, u60, u61, u62, u63, u64, u65, u66, u67, u68, u69, u70, u71, u72, u73, u74, u75, u76, u77, u78], defers := [] } ∧ Aside0 (FlowAt wB w fb lb pb p c m l ch) ∧ l.length = m.code.length ∧ Aside0 (StOk n m.stack l) ∧ Aside0 (passes p c m k l = some (e, L)) ∧ w.heap[mb]? = some (.cells #[.string m.name, .slice B0 m.params.length d0, .int .i64 m.ret.kind, .string m.ret.cls, .int .i64 m.locals, .int .i64 m.stack, .slice B1 m.code.length d1, .slice B2 m.handlers.length d2] 66 (0, 0)) ∧ Aside0 (MtOk c m n)
theorem pass_step {p : Pg} {c : Cl} {m : Mt} {n pc : Nat} {l : List St} {ch : Bool} {s : St} (hs : l[pc]? = some s) : pass p c m (n + 1) pc l ch = if s.reached = false then pass p c m n (pc + 1) l ch else if (goes p c m l ch pc).e ≠ 0 then goes p c m l ch pc else pass p c m n (pc + 1) (goes p c m l ch pc).l (goes p c m l ch pc).changed := by
  have h : l.getD pc default = s := by rw [List.getD_eq_getElem?_getD, hs]; rfl
  rw [pass, h]
theorem cells8c {w : World} {g : Nat} {v0 v1 v2 v3 v4 v5 v6 v7 : Value} {t : TypeId} (h : w.heap[g]? = some (.cells #[v0, v1, v2, v3, v4, v5, v6, v7] t (0, 0))) : w.cell? ⟨g, 6, none⟩ = some v6 := Bx.cell ⟨h⟩ (j := 6) rfl
/-- A block that is no state and no flow stays. -/
theorem keep_mt {wB w w' : World} {fb lb pb mb : Nat} {p : Pg} {c : Cl} {m : Mt} {l : List St} {ch : Bool} {cs : Array Value} (h : FlowAt wB w fb lb pb p c m l ch) (hk : Keep2 w w' fb lb) (hm : w.heap[mb]? = some (.cells cs 66 (0, 0))) : w'.heap[mb]? = some (.cells cs 66 (0, 0)) := by
  obtain ⟨cf, cl, hf, hl⟩ := h.blks
  exact (hk mb (blk_lt hm) (blk_differ hm hf (by decide)) (blk_differ hm hl (by decide))).trans hm
theorem passes_step {p : Pg} {c : Cl} {m : Mt} {k : Nat} {l : List St} {e : Int} {L : List St} (h : passes p c m k l = some (e, L)) : ∃ k' R, k' < k ∧ pass p c m m.code.length 0 l false = R ∧ (if R.e ≠ 0 then some (R.e, []) else if R.changed then passes p c m k' R.l else some (0, R.l)) = some (e, L) := by
  cases k with
  | zero => simp [passes] at h
  | succ k => exact ⟨k, _, Nat.lt_succ_self k, rfl, h⟩
set_option maxRecDepth 100000 in
set_option maxHeartbeats 4000000 in
theorem vmethod_any (wB : World) (pb : Nat) (p : Pg) (cls name : Nm) (H : ProgIs wB pb p) (m : Mt) (hm : (clsOf p cls).methods.find? (fun m => decide (m.name = name)) = some m) (n : Nat) (hok : MtOk (clsOf p cls) m n) (hn : m.locals = n) (hp : m.params.length < n) (hcl : m.code.length ≤ 100000)
    (k : Nat) (e : Int) (L : List St) (hres : passes p (clsOf p cls) m k (vstart p cls m) = some (e, L)) :
    Calls Try.prog 26 #[.pointer (some ⟨pb, 0, none⟩), .string cls, .string name] wB (MethPost wB pb p (clsOf p cls) m e L) := by
  obtain ⟨kk, hk1, hk2, hk3, hk4⟩ := find_idx _ m hm
  have HIX := Lib.hid (idxB_hit hk1 hk3 hk4)
  have HH := Aside0.mk H
  have HO := Aside0.mk hok
  have HRES := Aside0.mk hres
  have HN := Lib.hid hn
  have HP := Lib.hid hp
  have HK2 := Lib.hid hk2
  have hmk := run_make_st m.code.length hcl
  have eg := Aside0.mk (enters_of Try.func50 (by kernel_rfl) rfl)
  clear hm hk3 hk4 H hok hres hn hp hk2
  go_enter Try.func26, Try.ntmps26
  go_wp2_with fail
  refine wp_scope_ghost 0 (PMeth wB pb p (clsOf p cls) m n e L) rfl ?_ ?_
  · intro gk a' w' hJ
    obtain ⟨fb, lb, mb, l, ch, B0, B1, B2, d0, d1, d2, u0, u1, u2, u3, u4, u5, u6, u7, u8, u9, u10, u13, u14, u15, u16, u17, u18, u19, u20, u21, u22, u23, u24, u25, u26, u27, u28, u29, u30, u31, u32, u33, u34, u35, u36, u37, u38, u39, u40, u41, u42, u43, u44, u45, u46, u47, u48, u49, u50, u51, u52, u53, u54, u55, u56, u57, u58, u59, u60, u61, u62, u63, u64, u65, u66, u67, u68, u69, u70, u71, u72, u73, u74, u75, u76, u77, u78, rfl, HF, hlen, HOK, HPS, hmb, HMT⟩ := hJ
    clear HIX HH HO HRES HN HP HK2 eg hk1
    obtain ⟨_, _, _, r15, rf⟩ := HF.out.reads
    obtain ⟨gk', R, hgk, hR, hif⟩ := passes_step HPS.out
    obtain ⟨W1, hW1⟩ : ∃ W1, w'.setCell ⟨fb, 15, none⟩ (.bool false) = W1 := ⟨_, rfl⟩
    have F1 := HF.out.chg false
    have hmb1 : W1.heap[mb]? = some (.cells #[.string m.name, .slice B0 m.params.length d0, .int .i64 m.ret.kind, .string m.ret.cls, .int .i64 m.locals, .int .i64 m.stack, .slice B1 m.code.length d1, .slice B2 m.handlers.length d2] 66 (0, 0)) := by
      rw [← hW1]
      obtain ⟨cf, cl, hf, hl⟩ := HF.out.blks
      rw [Below.heap_setCell _ _ _ _ (blk_differ hmb hf (by decide))]
      exact hmb
    rw [hW1] at F1
    have mc6 := cells8c hmb1
    have H1 := Aside0.mk F1
    have HGK := Lib.hid hgk
    have HR := Aside0.mk hR
    have HIF := Aside0.mk hif
    have hmax := HMT.out.one
    clear HF HPS F1 hmb hgk hR hif
    go_wp2_with fail
    go_loopw [52] (fun s52 wr => ∃ (kk : Nat) (l1 : List St) (c1 : Bool), kk ≤ m.code.length ∧ s52 = .int .i64 kk ∧ l1.length = m.code.length ∧ Aside0 (FlowAt wB wr fb lb pb p (clsOf p cls) m l1 c1) ∧ Aside0 (StOk n m.stack l1) ∧ Aside0 (pass p (clsOf p cls) m (m.code.length - kk) kk l1 c1 = R) ∧ wr.heap[mb]? = some (.cells #[.string m.name, .slice B0 m.params.length d0, .int .i64 m.ret.kind, .string m.ret.cls, .int .i64 m.locals, .int .i64 m.stack, .slice B1 m.code.length d1, .slice B2 m.handlers.length d2] 66 (0, 0))) (fun s52 _ => m.code.length - (intOf s52).toNat)
    case atStart => exact ⟨0, l, false, Nat.zero_le _, rfl, hlen, H1, HOK, HR, hmb1⟩
    case round =>
      clear H1 HOK HR hmb1 mc6 hlen hW1
      obtain ⟨kk, l1, c1, hk, rfl, hlen, HF, HOK, HR, hmb⟩ := hrel
      have hk0 : (0 : Int) ≤ (kk : Int) := by omega
      have hmax : (m.code.length : Int) ≤ 9223372036854775807 := by
        obtain ⟨Ac, kc, Ah, kh, f12, hC, f13⟩ := HF.out.code
        have CC := cells_in hC
        have := CC.1
        omega
      obtain ⟨f0, f11, f14, f15, ff⟩ := HF.out.reads
      by_cases hlt : kk < m.code.length
      · have hltz : (kk : Int) < (m.code.length : Int) := by omega
        have hll : (kk : Int) < (l1.length : Int) := by omega
        obtain ⟨s, hs⟩ : ∃ s, l1[kk]? = some s := ⟨_, List.getElem?_eq_getElem (by omega)⟩
        obtain ⟨L0, S0, o1, o2, k0, k1, k2, k3, kf⟩ := HF.out.st hs
        obtain ⟨ad, had⟩ : ∃ ad : Addr, ad = ⟨lb, 0, none⟩ := ⟨_, rfl⟩
        have a0 : wr.cell? (ad.add (kk * 4)) = some (.bool s.reached) := by rw [had, add_lit]; exact k0
        rw [← had] at f14
        have HAD := Lib.hid had
        have hst := HR.out
        rw [show m.code.length - kk = (m.code.length - (kk + 1)) + 1 by omega, pass_step hs] at hst
        have HS := Aside0.mk hs
        have HLT := Lib.hid hlt
        rcases hr : s.reached with _ | _
        · rw [if_pos hr] at hst
          have HST := Aside0.mk hst
          rw [hr] at a0
          clear hs o1 o2 k0 k1 k2 k3 kf had hr hst hlt
          go_wp2
          go_roundw
          case rel => exact ⟨kk + 1, l1, c1, HLT.out, by go_num, hlen, HF, HOK, HST, hmb⟩
          case measure => have := HLT.out; simp [intOf]; omega
        · rw [if_neg (by rw [hr]; decide)] at hst
          have HST := Aside0.mk hst
          have GA := Aside0.mk (goes_any HF.out n HMT.out hlen HOK.out kk s hs hr)
          have GO := Aside0.mk (goes_ok (p := p) (c := clsOf p cls) HOK.out (pc := kk) (by omega) (by rw [List.getD_eq_getElem?_getD, hs]; exact hr) (ch := c1))
          rw [hr] at a0
          clear hs o1 o2 k0 k1 k2 k3 kf had hr hst hlt
          go_wp2_with fail
          refine GA.out.mono ?_
          rintro e2 w2 ⟨rfl, f2, b2, k2⟩
          have hmb2 := keep_mt HF.out k2 hmb
          have hlen2 := goes_len p (clsOf p cls) m l1 c1 kk
          have hgo := GO.out
          have hst := HST.out
          obtain ⟨a, ha⟩ : ∃ a, goes p (clsOf p cls) m l1 c1 kk = a := ⟨_, rfl⟩
          rw [ha] at f2 hst hlen2 hgo ⊢
          have F2 := Aside0.mk f2
          have HGO := Aside0.mk hgo
          clear f2 b2 k2 HST GA GO ha hgo hmb a0 f0 f11 f14 f15 ff
          by_cases hae : a.e = 0
          · have hae1 : (a.e != 0) = false := by rw [hae]; rfl
            rw [if_neg (by rw [hae]; decide)] at hst
            have HST := Aside0.mk hst
            clear hst hae
            go_wp2
            go_roundw
            case rel => exact ⟨kk + 1, a.l, a.changed, HLT.out, by go_num, by omega, F2, HGO, HST, hmb2⟩
            case measure => have := HLT.out; simp [intOf]; omega
          · have hae1 : (a.e != 0) = true := by rw [bne_iff_ne]; exact hae
            rw [if_pos hae] at hst
            have hif := HIF.out
            rw [← hst, if_pos hae] at hif
            simp only [Option.some.injEq, Prod.mk.injEq] at hif
            have HE := Lib.hid hif.1
            clear hst hae hif
            go_wp2
            go_ret2
            refine ⟨_, by rw [← HE.out]; rfl, F2.out.bel, fun he => ?_, fun _ => rfl⟩
            rw [bne_iff_ne] at hae1
            exact absurd (HE.out.trans he) hae1
      · have hge : kk = m.code.length := by omega
        have hst := HR.out
        rw [hge, Nat.sub_self, pass] at hst
        have hif := HIF.out
        rw [← hst] at hif
        simp only [ne_eq, not_true_eq_false, if_false] at hif
        have hif2 := hif
        have hltz : ¬ (kk : Int) < (m.code.length : Int) := by omega
        clear hst hif
        cases c1 with
        | true =>
          simp only [if_true] at hif2
          have HIF3 := Aside0.mk hif2
          clear hif2
          go_wp2_with fail
          go_step3
          exact ⟨rfl, gk', HGK.out, fb, lb, mb, l1, true, B0, B1, B2, d0, d1, d2, _, _, _, _, _, _, _, _, _, _, _, _, _, _, _, _, _, _, _, _, _, _, _, _, _, _, _, _, _, _, _, _, _, _, _, _, _, _, _, _, _, _, _, _, _, _, _, _, _, _, _, _, _, _, _, _, _, _, _, _, _, _, _, _, _, _, _, _, _, _, _, _, _, _, _, _, _, rfl, HF, hlen, HOK, HIF3, hmb, HMT⟩
        | false =>
          simp only [if_false, Option.some.injEq, Prod.mk.injEq, Bool.false_eq_true] at hif2
          obtain ⟨rfl, rfl⟩ := hif2
          go_wp2
          go_ret2
          exact ⟨_, rfl, HF.out.bel, fun _ => ⟨fb, lb, false, by rw [hlen]; rfl, HF.out⟩, fun h => absurd rfl h⟩
  · intro hp
    have HP2 := Aside0.mk hp
    clear hp
    go_wp2_with fail
    have hg0 := blk_new wB (.cells #[.string name] 9)
    obtain ⟨w0, hw0⟩ : ∃ w0, wB.alloc (.cells #[.string name] 9) = w0 := ⟨_, rfl⟩
    have hb0 : Below wB.heap.size wB w0 := by rw [← hw0]; exact balloc _ _
    rw [hw0] at hg0 ⊢
    refine (class_at pb p cls wB w0 HH.out hb0).mono ?_
    rintro e1 w1 ⟨cs, rfl, hcl, hb1⟩
    have HCL := Aside0.mk hcl
    obtain ⟨A0, e0, A1, e1, A2, e2, rfl, ⟨k0, k1, k2⟩, r0, r1, r2⟩ := clK_open hcl
    obtain ⟨mc, CM0, KM⟩ := cells_of default r2
    have CM1 := (CM0.below hb0).below hb1
    obtain ⟨w2, hw2⟩ : ∃ w2, w1.alloc (.cells #[.string (clsOf p cls).name, .string (clsOf p cls).super, .slice A0 (clsOf p cls).pool.length e0, .slice A1 (clsOf p cls).fields.length e1, .slice A2 (clsOf p cls).methods.length e2] 72) = w2 := ⟨_, rfl⟩
    have hb2 : Below w1.heap.size w1 w2 := by rw [← hw2]; exact balloc _ _
    have hc2 : w2.heap[w1.heap.size]? = some (.cells #[.string (clsOf p cls).name, .string (clsOf p cls).super, .slice A0 (clsOf p cls).pool.length e0, .slice A1 (clsOf p cls).fields.length e1, .slice A2 (clsOf p cls).methods.length e2] 72 (0, 0)) := by rw [← hw2]; exact blk_new _ _
    have CM2 := CM1.below hb2
    have hg2 := blk_below (blk_below hg0 hb1) hb2
    have IX := Aside0.mk (idx_Mt 50 _ eg.out A2 _ e2 mc _ w2 CM2 (vname_asks (clsOf p cls).methods _ mc wB.heap.size name w2 (fun j hj => ⟨_, KM j hj⟩) (blk_lt hg2) (Bx.cell ⟨hg2⟩ (j := 0) rfl)))
    have CM := Aside0.mk CM2
    have HC2 := Aside0.mk hc2
    have HB := Aside0.mk (bthen hb0 (bthen hb1 hb2))
    have HKM := Aside0.mk (KM kk hk1)
    clear KM CM0 CM1 CM2 hcl r0 r1 r2 hg0 hg2 hb0 hb1
    obtain ⟨_, _, _, _, cc2⟩ := Bx.five ⟨hc2⟩
    have hk0 : ¬ ((kk : Int) < 0) := by omega
    have hk00 : (0 : Int) ≤ (kk : Int) := by omega
    have hkl : (kk : Int) < ((clsOf p cls).methods.length : Int) := by omega
    go_wp2_with fail
    refine IX.out.mono ?_
    rintro e w3 ⟨rfl, hb3⟩
    rw [HIX.out]
    have hc3 := blk_below HC2.out hb3
    obtain ⟨_, _, _, _, cc4⟩ := Bx.five ⟨hc3⟩
    have CM3 : Cells w3 A2 (clsOf p cls).methods.length 8 mc := CM.out.below hb3
    clear CM
    obtain ⟨ad, rfl, _⟩ := CM3.2 (by omega)
    have hm0 := HKM.out
    rw [HK2.out] at hm0
    have HM0 := Aside0.mk hm0
    obtain ⟨B0, d0, B1, d1, B2, d2, hmc, _⟩ := mtK_open hm0
    have x0 := CM3.at0 hk1 (v := .string m.name) (by rw [hmc]; rfl)
    have x1 := CM3.at_ (i := 1) hk1 (by decide) (v := .slice B0 m.params.length d0) (by rw [hmc]; rfl)
    have x2 := CM3.at_ (i := 2) hk1 (by decide) (v := .int .i64 m.ret.kind) (by rw [hmc]; rfl)
    have x3 := CM3.at_ (i := 3) hk1 (by decide) (v := .string m.ret.cls) (by rw [hmc]; rfl)
    have x4 := CM3.at_ (i := 4) hk1 (by decide) (v := .int .i64 m.locals) (by rw [hmc]; rfl)
    have x5 := CM3.at_ (i := 5) hk1 (by decide) (v := .int .i64 m.stack) (by rw [hmc]; rfl)
    have x6 := CM3.at_ (i := 6) hk1 (by decide) (v := .slice B1 m.code.length d1) (by rw [hmc]; rfl)
    have x7 := CM3.at_ (i := 7) hk1 (by decide) (v := .slice B2 m.handlers.length d2) (by rw [hmc]; rfl)
    have hlc : w1.heap.size < w3.heap.size := Nat.lt_of_lt_of_le (blk_lt hc2) hb3.size
    have HB3 := Aside0.mk (bthen HB.out hb3)
    rw [hmc] at HM0
    have HC3 := Aside0.mk hc3
    clear hc2 hm0 hmc CM3 hc3 hb3 hb2
    generalize w1.heap.size = cb at *
    have hz8 : w3.heap.size = w3.heap.size := rfl
    obtain ⟨w4, hw4⟩ : ∃ w4, w3.alloc (.cells #[.string m.name, .slice B0 m.params.length d0, .int .i64 m.ret.kind, .string m.ret.cls, .int .i64 m.locals, .int .i64 m.stack, .slice B1 m.code.length d1, .slice B2 m.handlers.length d2] 66) = w4 := ⟨_, rfl⟩
    have hb4 : Below w3.heap.size w3 w4 := by rw [← hw4]; exact balloc _ _
    have hm4 : w4.heap[w3.heap.size]? = some (.cells #[.string m.name, .slice B0 m.params.length d0, .int .i64 m.ret.kind, .string m.ret.cls, .int .i64 m.locals, .int .i64 m.stack, .slice B1 m.code.length d1, .slice B2 m.handlers.length d2] 66 (0, 0)) := by rw [← hw4]; exact blk_new _ _
    have HM4 := Aside0.mk hm4
    go_wp2_with fail
    have hl4 : w3.heap.size < w4.heap.size := blk_lt hm4
    have hl5 : cb < w4.heap.size := by omega
    obtain ⟨y0, y1, y2, y3, y4, y5, y6, y7⟩ := Bx.eight ⟨hm4⟩
    obtain ⟨z0, z1, z2, z3, z4⟩ := Bx.five ⟨blk_below HC3.out hb4⟩
    have HB4 := Aside0.mk (bthen HB3.out hb4)
    clear x0 x1 x2 x3 x4 x5 x6 x7 cc4 cc2 hw2 hw4 hm4 hb4 hlc hz8
    generalize w3.heap.size = mb at *
    have hmk : ∀ w : World, (Instr.makeSlice 78 (.int .i64 (m.code.length : Int)) (.int .i64 (m.code.length : Int))).run Try.prog w = .ok (.slice (some ⟨w.heap.size, 0, none⟩) m.code.length m.code.length) (w.alloc (.cells (stZ m.code.length) 82)) := hmk
    go_region
    have HCL0 := HCL.out
    have F0 := (flow_new HB4.out HH.out HCL0 HM0.out m.code.length).below (below_drew (Below.refl _ _))
    have hm5 : (((w4.alloc (.cells (stZ m.code.length) ST)).alloc (.cells (flowCs pb w4.heap.size m.code.length false (.string (clsOf p cls).name) (.string (clsOf p cls).super) (.slice A0 (clsOf p cls).pool.length e0) (.slice A1 (clsOf p cls).fields.length e1) (.slice (some ad) (clsOf p cls).methods.length e2) (.string m.name) (.slice B0 m.params.length d0) (.int .i64 m.ret.kind) (.string m.ret.cls) (.int .i64 m.locals) (.int .i64 m.stack) (.slice B1 m.code.length d1) (.slice B2 m.handlers.length d2)) FT)).drew).heap[mb]? = some (.cells #[.string m.name, .slice B0 m.params.length d0, .int .i64 m.ret.kind, .string m.ret.cls, .int .i64 m.locals, .int .i64 m.stack, .slice B1 m.code.length d1, .slice B2 m.handlers.length d2] 66 (0, 0)) := blk_drew (blk_alloc (blk_alloc HM4.out _) _)
    unfold flowCs ST FT at hm5
    unfold flowCs ST FT at F0
    obtain ⟨lb, hlb⟩ : ∃ lb, w4.heap.size = lb := ⟨_, rfl⟩
    obtain ⟨W5, hW5⟩ : ∃ W5, ((w4.alloc (.cells (stZ m.code.length) ST)).alloc (.cells (flowCs pb w4.heap.size m.code.length false (.string (clsOf p cls).name) (.string (clsOf p cls).super) (.slice A0 (clsOf p cls).pool.length e0) (.slice A1 (clsOf p cls).fields.length e1) (.slice (some ad) (clsOf p cls).methods.length e2) (.string m.name) (.slice B0 m.params.length d0) (.int .i64 m.ret.kind) (.string m.ret.cls) (.int .i64 m.locals) (.int .i64 m.stack) (.slice B1 m.code.length d1) (.slice B2 m.handlers.length d2)) FT)).drew = W5 := ⟨_, rfl⟩
    unfold flowCs ST FT at hW5
    rw [hW5] at F0 hm5 ⊢
    rw [hlb] at F0 ⊢
    clear hW5 hmk y0 y1 y2 y3 y4 y5 y6 y7 z0 z1 z2 z3 z4 hlb
    have F5 := Aside0.mk F0
    have HM5 := Aside0.mk hm5
    obtain ⟨y0, y1, y2, y3, y4, y5, y6, y7⟩ := Bx.eight ⟨hm5⟩
    have EN := Aside0.mk (entry_any cls m _ W5 (mtK.K_below F0.bel HM0.out) (by have := HP.out; have := HO.out.n9; omega) (by have := HN.out; have := HO.out.n9; omega))
    clear F0 hm5 HCL0
    go_wp2_with fail
    refine EN.out.mono ?_
    rintro e W6 ⟨L6, rfl, o6, hb6⟩
    obtain ⟨AL, cL, rfl⟩ := o6.slice
    have F6 := F5.out.below hb6
    have hm6 := blk_below HM5.out hb6
    have hel := entry_len (cls := cls) HN.out HP.out
    have JC : Calls Try.prog 51 #[.pointer (some ⟨lb + 1, 0, none⟩), .int .i64 0, .agg #[.bool true, .slice AL (entry cls m).locals.length cL, .slice none 0 0, .slice none 0 0]] W6 (JoinsPost wB W6 (lb + 1) lb pb p (clsOf p cls) m (joins p m.stack (List.replicate m.code.length default) false 0 (entry cls m))) :=
      joins_any F6 0 default (by rw [List.getElem?_replicate, if_pos HO.out.one]) (entry cls m) AL none cL 0 ⟨⟨_, o6⟩, ⟨0, own_none 0 W6⟩, by have := HO.out.n9; omega, Nat.zero_le _⟩ rfl (fun h => by cases h)
    have JC := Aside0.mk JC
    have F6 := Aside0.mk F6
    have HM6 := Aside0.mk hm6
    clear o6 hb6 hm6 hel
    go_wp2_with fail
    refine JC.out.mono ?_
    rintro e W7 ⟨rfl, f7, b7, k7⟩
    have hm7 := keep_mt F6.out k7 HM6.out
    have hl7 := joins_len p m.stack (List.replicate m.code.length default) false 0 (entry cls m)
    have ok7 := Aside0.mk (joins_ok (p := p) (ch := false) (pc := 0) (s := entry cls m) (ok_start (n := n) (k := m.code.length) (most := m.stack)) (entry_len HN.out HP.out))
    have hres := HRES.out
    unfold vstart at hres
    obtain ⟨a, ha⟩ : ∃ a, joins p m.stack (List.replicate m.code.length default) false 0 (entry cls m) = a := ⟨_, rfl⟩
    rw [ha] at f7 hl7 ok7 hres ⊢
    rw [List.length_replicate] at hl7
    have F7 := Aside0.mk f7
    have HR7 := Aside0.mk hres
    clear f7 b7 k7 ha hres
    go_wp2_with fail
    go_step3
    simp only [Exit.then]
    have hp := HP2.out
    refine (by assumption : ∀ (a : Act) (w : World), _ → _) _ _ (hp k _ _ ?_)
    exact ⟨_, _, _, _, _, _, _, _, _, _, _, _, _, _, _, _, _, _, _, _, _, _, _, _, _, _, _, _, _, _, _, _, _, _, _, _, _, _, _, _, _, _, _, _, _, _, _, _, _, _, _, _, _, _, _, _, _, _, _, _, _, _, _, _, _, _, _, _, _, _, _, _, _, _, _, _, _, _, _, _, _, _, _, _, _, _, _, _, rfl, F7, hl7, ok7, HR7, hm7, HO⟩
end Go.Proofs.Ytpdjkclacbgneaa
