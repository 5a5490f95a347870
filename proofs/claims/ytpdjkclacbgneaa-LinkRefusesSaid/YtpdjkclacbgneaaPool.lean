/- (*link.Program).pool; what it asks of Field. -/
import Derived.Test.YtpdjkclacbgneaaMem
set_option linter.unusedVariables false
set_option linter.unusedSimpArgs false
namespace Go.Proofs.Ytpdjkclacbgneaa
open Go.RowKit Go.Shelf Go.Proofs.YtpdjkclacbgneaaW.PrintWords Go.Proofs.Ytpdjkclacbgneaa.Pl

def slCs (s : Sl) : List Value := [.string s.cls, .string s.fd.name, .int .i64 s.fd.ty.kind, .string s.fd.ty.cls, .bool s.fd.vol, .int .i64 s.at_]
/-- What (*link.Program).Field answers. -/
def FieldSpec (p : Pg) : Prop := ∀ (pb : Nat) (cls name : Nm) (w : World), ProgIs w pb p →
  Calls Try.prog 20 #[.pointer (some ⟨pb, 0, none⟩), .string cls, .string name] w fun e w' => e = .returned (.tuple #[.agg (slCs (fieldOf p cls name).1).toArray, .bool (fieldOf p cls name).2]) ∧ Below w.heap.size w w'
theorem hasF_drew {g : Nat} {h : Hier} {n : Nm} {w : World} (H : HierIs w g h) {q : Bool} (hq : Pl.has h n = q) (k : Nat) : Calls Try.prog 39 #[.pointer (some ⟨g, 0, none⟩), .string n] (w.drewN k) fun e w' => e = .returned (.bool q) ∧ w.drewN k = w' :=
  has_is (H.below (pw_below_drewN (Below.refl _ _) k)) hq

def PPool (c : Cl) (A0 A1 A2 : Option Addr) (np c0 c1 c2 : Nat) (p : Pg) (pb : Nat) (w : World) (a' : Act) (w' : World) : Prop :=
  ∃ (i : Nat) (u6 u7 u8 u9 u10 u11 u12 u13 u14 u15 u16 u17 u18 u19 u20 u21 u22 u23 u24 u25 u26 u27 u28 u29 u30 u31 u32 u33 u34 u35 u36 u37 u38 u39 u40 u41 u42 u43 u44 u45 u46 u47 u48 u49 u50 u51 u52 u53 u54 u55 u56 u57 u58 u59 u60 u61 u62 u63 u64 u65 u66 u67 u68 u69 : Value), a' = { tmps := #[.pointer (some ⟨pb, 0, none⟩), .agg #[.string c.name, .string c.super, .slice A0 np c0, .slice A1 c.fields.length c1, .slice A2 c.methods.length c2], undef, .pointer (some ⟨w.heap.size, 0, none⟩), .int .i64 0, .int .i64 i, u6, u7, u8, u9, u10, u11, u12, u13, u14, u15, u16, u17, u18, u19, u20, u21, u22, u23, u24, u25, u26, u27, u28, u29, u30, u31, u32, u33, u34, u35, u36, u37, u38, u39, u40, u41, u42, u43, u44, u45, u46, u47, u48, u49, u50, u51, u52, u53, u54, u55, u56, u57, u58, u59, u60, u61, u62, u63, u64, u65, u66, u67, u68, u69], defers := [] } ∧ i ≤ np ∧ Bx1 w w' (.cells #[.string c.name, .string c.super, .slice A0 np c0, .slice A1 c.fields.length c1, .slice A2 c.methods.length c2] 72) ∧ firstOf (pool1 p) (c.pool.drop i) = firstOf (pool1 p) c.pool
set_option maxHeartbeats 400000 in
set_option maxRecDepth 10000 in
theorem pool_any (pb : Nat) (p : Pg) (c : Cl) (cc : List Value) (w : World) (H : ProgIs w pb p) (hc : clK.K w c cc) (hF : (∃ x, x ∈ c.pool ∧ 3 ≤ x.kind) → FieldSpec p) :
    Calls Try.prog 34 #[.pointer (some ⟨pb, 0, none⟩), .agg cc.toArray] w fun e w' => e = .returned (.int .i64 (firstOf (pool1 p) c.pool)) ∧ Below w.heap.size w w' := by
  have HH := Aside0.mk H
  have HF := Aside0.mk hF
  have hsc := run_store_cplx
  have hpb := H.lt
  obtain ⟨A0, c0, A1, c1, A2, c2, rfl, ⟨k0, k1, k2⟩, r0, r1, r2⟩ := clK_open hc
  have CP := cells_cn r0
  clear hc r0 r1 r2 H hF
  obtain ⟨res, hres⟩ : ∃ res, firstOf (pool1 p) c.pool = res := ⟨_, rfl⟩
  rw [hres]
  have HRES := Lib.hid hres
  clear hres
  obtain ⟨np, hnp⟩ : ∃ np, c.pool.length = np := ⟨_, rfl⟩
  rw [hnp] at CP ⊢
  have HNP := Lib.hid hnp
  have hmax := CP.1
  clear hnp k0
  go_enter Try.func34, Try.ntmps34
  go_wp2
  refine wp_scope_once 0 (PPool c A0 A1 A2 np c0 c1 c2 p pb w) (fun a' _ => np - (intOf (a'.tmps.getD 5 undef)).toNat) rfl ?_ ?_
  · rintro a' wr ⟨i, u6, u7, u8, u9, u10, u11, u12, u13, u14, u15, u16, u17, u18, u19, u20, u21, u22, u23, u24, u25, u26, u27, u28, u29, u30, u31, u32, u33, u34, u35, u36, u37, u38, u39, u40, u41, u42, u43, u44, u45, u46, u47, u48, u49, u50, u51, u52, u53, u54, u55, u56, u57, u58, u59, u60, u61, u62, u63, u64, u65, u66, u67, u68, u69, rfl, hi, hB, hl⟩
    have HL := Aside0.mk hl
    have BB := Aside0.mk hB
    have HP := Aside0.mk (HH.out.below hB.bel)
    obtain ⟨y0, y1, y2, y3, y4⟩ := Bx.five ⟨hB.b0⟩
    have lt0 := hB.lt
    clear hl hB
    by_cases hend : i = np
    · subst hend
      have HR : Hid (res = 0) := Lib.hid (by
        rw [← HRES.out, ← HL.out, List.drop_of_length_le (by have := HNP.out; omega)]
        rfl)
      go_wp2
      simp only [Exit.jump]
      go_ret
      exact ⟨by rw [HR.out]; rfl, BB.out.bel⟩
    have hlt : i < np := by omega
    have hltz : (i : Int) < (np : Int) := by omega
    have hez : ((i : Int) == (np : Int)) = false := by rw [beq_eq_false_iff_ne]; omega
    have hez2 : (i == np) = false := by rw [beq_eq_false_iff_ne]; omega
    have CW := CP.below BB.out.bel
    obtain ⟨ad, rfl, had⟩ := CW.2 (by omega)
    clear had
    generalize hx : c.pool.getD i default = x
    have HX : Aside0 (c.pool[i]? = some x) := ⟨by rw [← hx]; exact getD_some _ (by have := HNP.out; omega)⟩
    have l0 := CW.at0 hlt (v := .int .i64 x.kind) (by rw [← hx]; rfl)
    have l1 := CW.at_ hlt (i := 1) (by decide) (v := .int .i64 x.int) (by rw [← hx]; rfl)
    have l2 := CW.at_ hlt (i := 2) (by decide) (v := .complex .f64 x.re x.im) (by rw [← hx]; rfl)
    have l3 := CW.at_ hlt (i := 3) (by decide) (v := .string x.cls) (by rw [← hx]; rfl)
    have l4 := CW.at_ hlt (i := 4) (by decide) (v := .string x.name) (by rw [← hx]; rfl)
    have HS : Hid (res = if pool1 p x = 0 then firstOf (pool1 p) (c.pool.drop (i + 1)) else pool1 p x) := Lib.hid (by rw [← HRES.out, ← HL.out, firstOf_step HX.out])
    clear hx
    by_cases hk : x.kind < 3
    · have HN : Aside0 (firstOf (pool1 p) (c.pool.drop (i + 1)) = firstOf (pool1 p) c.pool) := ⟨by
        have h1 : pool1 p x = 0 := by unfold pool1; rw [if_pos hk]
        rw [HRES.out, HS.out, h1]; rfl⟩
      go_wp2
      go_step3
      refine ⟨rfl, ⟨i + 1, _, _, _, _, _, _, _, _, _, _, _, _, _, _, _, _, _, _, _, _, _, _, _, _, _, _, _, _, _, _, _, _, _, _, _, _, _, _, _, _, _, _, _, _, _, _, _, _, _, _, _, _, _, _, _, _, _, _, _, _, _, _, _, _, rfl, by omega, BB.out.below (balloc _ _), HN.out⟩, ?_⟩
      simp [intOf]; omega
    obtain ⟨gx, hgx⟩ : ∃ gx, gx = wr.heap.size := ⟨_, rfl⟩
    obtain ⟨W1, hW1⟩ : ∃ W1, W1 = wr.alloc (.cells #[.int .i64 x.kind, .int .i64 x.int, .complex .f64 x.re x.im, .string x.cls, .string x.name] 32) := ⟨_, rfl⟩
    have hbx : W1.heap[gx]? = some (.cells #[.int .i64 x.kind, .int .i64 x.int, .complex .f64 x.re x.im, .string x.cls, .string x.name] 32) := by rw [hW1, hgx]; exact blk_new _ _
    have hbw : Below wr.heap.size wr W1 := by rw [hW1]; exact balloc _ _
    go_wp2_with fail
    rw [← hW1, ← hgx]
    have BB1 := Aside0.mk (BB.out.below hbw)
    have HP1 := Aside0.mk (HP.out.below hbw)
    clear l0 l1 l2 l3 l4 y0 y1 y2 y3 y4 hW1 hgx hbw BB HP lt0 CW
    obtain ⟨z0, z1, z2, z3, z4⟩ := Bx.five ⟨hbx⟩
    obtain ⟨_, ⟨g, hg, hI⟩, _⟩ := HP1.out
    have HI := Aside0.mk hI
    clear hI
    rcases hq : Pl.has p.h x.cls with _ | _
    · have HR : Hid (res = 70) := Lib.hid (by
        have h1 : pool1 p x = 70 := by unfold pool1; rw [if_neg (by omega), if_pos hq]
        rw [HS.out, h1]; rfl)
      have HQ := Aside0.mk hq
      clear hq HS
      go_quiet (first | (go_at_call 39; exact Calls.quiet_of_same (csame (hasF_drew HI.out HQ.out _))))
      go_wp2
      simp only [Exit.jump]
      go_ret
      exact ⟨by rw [HR.out]; rfl, pw_below_drewN BB1.out.bel _⟩
    have HQ := Aside0.mk hq
    have HS1 : Hid (res = if (if (x.kind = 4 ∧ (fieldOf p x.cls x.name).2 = false) ∨ (x.kind = 5 ∧ (meth p x.cls x.name).2.2 = false) then (72 : Int) else 0) = 0 then firstOf (pool1 p) (c.pool.drop (i + 1)) else (if (x.kind = 4 ∧ (fieldOf p x.cls x.name).2 = false) ∨ (x.kind = 5 ∧ (meth p x.cls x.name).2.2 = false) then 72 else 0)) := Lib.hid (by
      have h1 : pool1 p x = if (x.kind = 4 ∧ (fieldOf p x.cls x.name).2 = false) ∨ (x.kind = 5 ∧ (meth p x.cls x.name).2.2 = false) then 72 else 0 := by unfold pool1; rw [if_neg (by omega), if_neg (by rw [hq]; decide)]
      rw [HS.out, h1])
    have hFS := HF.out ⟨x, List.mem_of_getElem? HX.out, by omega⟩
    have HFS := Aside0.mk hFS
    clear hq HS hFS
    go_quiet (first | (go_at_call 39; exact Calls.quiet_of_same (csame (hasF_drew HI.out HQ.out _))))
    go_wp2_with fail
    have hd1 : Below W1.heap.size W1 (W1.drewN nq) := pw_below_drewN (Below.refl _ _) _
    refine (meth_any pb p x.cls x.name _ (HP1.out.below hd1)).mono ?_
    rintro e W2 ⟨mcs, rfl, hK2, hb2⟩
    obtain ⟨E0, e0, E1, e1, E2, e2, rfl, _, _, _, _⟩ := mtK_open hK2
    have hb2' := bthen hd1 hb2
    have BB2 := Aside0.mk (BB1.out.below hb2')
    have HP2 := Aside0.mk (HP1.out.below hb2')
    have hbx2 := blk_below hbx hb2'
    have lt2 := blk_lt hbx2
    clear z0 z1 z2 z3 z4 hbx hg HI HQ hb2 hb2' hd1 hK2 HP1 BB1
    obtain ⟨z0, z1, z2, z3, z4⟩ := Bx.five ⟨hbx2⟩
    generalize (meth p x.cls x.name).2.2 = mok at *
    generalize (meth p x.cls x.name).2.1 = mm at *
    generalize (meth p x.cls x.name).1 = mn at *
    go_wp2_with fail
    have hba := balloc W2 (.cells #[.string mm.name, .slice E0 mm.params.length e0, .int .i64 mm.ret.kind, .string mm.ret.cls, .int .i64 mm.locals, .int .i64 mm.stack, .slice E1 mm.code.length e1, .slice E2 mm.handlers.length e2] 66)
    refine (HFS.out pb x.cls x.name _ (HP2.out.below hba)).mono ?_
    rintro e W3 ⟨rfl, hb3⟩
    have hb3' := bthen hba hb3
    have BB3 := Aside0.mk (BB2.out.below hb3')
    have hbx3 := blk_below hbx2 hb3'
    have lt3 := blk_lt hbx3
    clear z0 z1 z2 z3 z4 hbx2 hba hb3 hb3' HP2 BB2 lt2
    obtain ⟨z0, z1, z2, z3, z4⟩ := Bx.five ⟨hbx3⟩
    generalize (fieldOf p x.cls x.name).2 = fok at *
    generalize (fieldOf p x.cls x.name).1 = sl
    unfold slCs
    by_cases k4 : x.kind = 4
    · have e4 : (x.kind == 4) = true := by rw [beq_iff_eq]; exact k4
      have e5 : (x.kind == 5) = false := by rw [beq_eq_false_iff_ne]; omega
      cases fok with
      | false =>
        have HR : Hid (res = 72) := Lib.hid (by
          have h1 := HS1.out
          rw [if_pos (show ((x.kind = 4 ∧ false = false) ∨ (x.kind = 5 ∧ mok = false)) from .inl ⟨k4, rfl⟩)] at h1
          rw [h1]; rfl)
        clear HS1 k4
        go_wp2
        simp only [Exit.jump]
        go_ret
        exact ⟨by rw [HR.out]; rfl, bthen BB3.out.bel (balloc _ _)⟩
      | true =>
        have HN : Aside0 (firstOf (pool1 p) (c.pool.drop (i + 1)) = firstOf (pool1 p) c.pool) := ⟨by
          have h1 := HS1.out
          rw [if_neg (show ¬ ((x.kind = 4 ∧ true = false) ∨ (x.kind = 5 ∧ mok = false)) by rintro (⟨_, h⟩ | ⟨h, _⟩); cases h; omega)] at h1
          rw [HRES.out, h1]; rfl⟩
        clear HS1 k4
        go_wp2
        go_step3
        refine ⟨rfl, ⟨i + 1, _, _, _, _, _, _, _, _, _, _, _, _, _, _, _, _, _, _, _, _, _, _, _, _, _, _, _, _, _, _, _, _, _, _, _, _, _, _, _, _, _, _, _, _, _, _, _, _, _, _, _, _, _, _, _, _, _, _, _, _, _, _, _, _, rfl, by omega, BB3.out.below (balloc _ _), HN.out⟩, ?_⟩
        simp [intOf]; omega
    · have e4 : (x.kind == 4) = false := by rw [beq_eq_false_iff_ne]; exact k4
      by_cases k5 : x.kind = 5
      · have e5 : (x.kind == 5) = true := by rw [beq_iff_eq]; exact k5
        cases mok with
        | false =>
          have HR : Hid (res = 72) := Lib.hid (by
            have h1 := HS1.out
            rw [if_pos (show ((x.kind = 4 ∧ fok = false) ∨ (x.kind = 5 ∧ false = false)) from .inr ⟨k5, rfl⟩)] at h1
            rw [h1]; rfl)
          clear HS1 k4 k5
          go_wp2
          simp only [Exit.jump]
          go_ret
          exact ⟨by rw [HR.out]; rfl, bthen BB3.out.bel (balloc _ _)⟩
        | true =>
          have HN : Aside0 (firstOf (pool1 p) (c.pool.drop (i + 1)) = firstOf (pool1 p) c.pool) := ⟨by
            have h1 := HS1.out
            rw [if_neg (show ¬ ((x.kind = 4 ∧ fok = false) ∨ (x.kind = 5 ∧ true = false)) by rintro (⟨h, _⟩ | ⟨_, h⟩); exact k4 h; cases h)] at h1
            rw [HRES.out, h1]; rfl⟩
          clear HS1 k4 k5
          go_wp2
          go_step3
          refine ⟨rfl, ⟨i + 1, _, _, _, _, _, _, _, _, _, _, _, _, _, _, _, _, _, _, _, _, _, _, _, _, _, _, _, _, _, _, _, _, _, _, _, _, _, _, _, _, _, _, _, _, _, _, _, _, _, _, _, _, _, _, _, _, _, _, _, _, _, _, _, _, rfl, by omega, BB3.out.below (balloc _ _), HN.out⟩, ?_⟩
          simp [intOf]; omega
      · have e5 : (x.kind == 5) = false := by rw [beq_eq_false_iff_ne]; exact k5
        have HN : Aside0 (firstOf (pool1 p) (c.pool.drop (i + 1)) = firstOf (pool1 p) c.pool) := ⟨by
          have h1 := HS1.out
          rw [if_neg (show ¬ ((x.kind = 4 ∧ fok = false) ∨ (x.kind = 5 ∧ mok = false)) by rintro (⟨h, _⟩ | ⟨h, _⟩); exact k4 h; exact k5 h)] at h1
          rw [HRES.out, h1]; rfl⟩
        clear HS1 k4 k5
        go_wp2
        go_step3
        refine ⟨rfl, ⟨i + 1, _, _, _, _, _, _, _, _, _, _, _, _, _, _, _, _, _, _, _, _, _, _, _, _, _, _, _, _, _, _, _, _, _, _, _, _, _, _, _, _, _, _, _, _, _, _, _, _, _, _, _, _, _, _, _, _, _, _, _, _, _, _, _, _, rfl, by omega, BB3.out.below (balloc _ _), HN.out⟩, ?_⟩
        simp [intOf]; omega
  · intro hp
    go_wp2
    go_step3
    simp only [Exit.then]
    refine (by assumption : ∀ (a : Act) (w : World), _ → _) _ _ (hp _ _ ?_)
    exact ⟨0, _, _, _, _, _, _, _, _, _, _, _, _, _, _, _, _, _, _, _, _, _, _, _, _, _, _, _, _, _, _, _, _, _, _, _, _, _, _, _, _, _, _, _, _, _, _, _, _, _, _, _, _, _, _, _, _, _, _, _, _, _, _, _, _, rfl, by omega, Bx1.new _ _, rfl⟩
end Go.Proofs.Ytpdjkclacbgneaa
