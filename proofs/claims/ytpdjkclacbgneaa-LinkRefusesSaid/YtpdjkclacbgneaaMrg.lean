/- types.Merge. -/
import Derived.Test.YtpdjkclacbgneaaTyp
import Derived.Test.YtpdjkclacbgneaaLnk2
set_option linter.unusedVariables false
set_option linter.unusedSimpArgs false
namespace Go.Proofs.Ytpdjkclacbgneaa
open Go.RowKit Go.Shelf Go.Proofs.YtpdjkclacbgneaaW.PrintWords Go.Proofs.Ytpdjkclacbgneaa.Pl

/-- Merge's four boxes. -/
structure Bx4 (w W : World) (o0 o1 o2 o3 : Obj) : Prop where
  bel : Below w.heap.size w W
  b0 : W.heap[w.heap.size]? = some o0
  b1 : W.heap[w.heap.size + 1]? = some o1
  b2 : W.heap[w.heap.size + 1 + 1]? = some o2
  b3 : W.heap[w.heap.size + 1 + 1 + 1]? = some o3
theorem Bx4.new (w : World) (o0 o1 o2 o3 : Obj) : Bx4 w ((((w.alloc o0).alloc o1).alloc o2).alloc o3) o0 o1 o2 o3 := by
  obtain ⟨h, h0, h1, h2⟩ := box3 (w := w) (o0 := o0) (o1 := o1) (o2 := o2) (Below.refl _ _)
  refine ⟨bthen h (balloc _ _), blk_alloc h0 _, blk_alloc h1 _, blk_alloc h2 _, ?_⟩
  have := blk_new (((w.alloc o0).alloc o1).alloc o2) o3
  rwa [World.size_alloc, World.size_alloc, World.size_alloc] at this
theorem Bx4.below {w W W' : World} {o0 o1 o2 o3 : Obj} (h : Bx4 w W o0 o1 o2 o3) (hb : Below W.heap.size W W') : Bx4 w W' o0 o1 o2 o3 := ⟨bthen h.bel hb, blk_below h.b0 hb, blk_below h.b1 hb, blk_below h.b2 hb, blk_below h.b3 hb⟩
theorem chain2 {w W : World} {g : Nat} {a0 a1 v0 v1 : Value} {t : TypeId} (hb : Below w.heap.size w W) (hl : w.heap.size ≤ g) (h : W.heap[g]? = some (.cells #[a0, a1] t (0, 0))) :
    Below w.heap.size w ((W.setCell ⟨g, 0, none⟩ v0).setCell ⟨g, 1, none⟩ v1) ∧ ((W.setCell ⟨g, 0, none⟩ v0).setCell ⟨g, 1, none⟩ v1).heap[g]? = some (.cells #[v0, v1] t (0, 0)) := by
  refine ⟨(hb.setCell (p := ⟨g, 0, none⟩) hl v0).setCell (p := ⟨g, 1, none⟩) hl v1, ?_⟩
  simp [World.setCell, Array.getElem?_modify, h]
def tyO (t : Ty) : Obj := .cells #[.int .i64 t.kind, .string t.cls] 48
theorem zTy : (default : Ty) = ⟨0, ⟨#[]⟩⟩ := rfl
set_option maxHeartbeats 400000 in
set_option maxRecDepth 10000 in
theorem merge_any (g : Nat) (h : Hier) (a b : Ty) (w : World) (H : HierIs w g h) (hg : Good h) :
    Calls Try.prog 76 #[.pointer (some ⟨g, 0, none⟩), .agg #[.int .i64 a.kind, .string a.cls], .agg #[.int .i64 b.kind, .string b.cls]] w fun e w' => e = .returned (.agg #[.int .i64 (merge h a b).kind, .string (merge h a b).cls]) ∧ Below w.heap.size w w' := by
  have HH := Aside0.mk H
  have HG := Aside0.mk hg
  clear H hg
  obtain ⟨res, hres⟩ : ∃ res, merge h a b = res := ⟨_, rfl⟩
  rw [hres]
  have HRES := Lib.hid hres
  clear hres
  have hqq := fun w => eqTy' a b w
  by_cases hab : a = b
  · have HR : Hid (res = a) := Lib.hid (by rw [← HRES.out]; unfold merge; rw [if_pos hab])
    rw [decide_eq_true hab] at hqq
    subst hab
    go_enter Try.func76, Try.ntmps76
    go_wp2
    have B := Bx4.new w (tyO a) (tyO a) (tyO a) (tyO top)
    refine bodyPost_ret (results_cell_row rfl _ _ _ _ _ _ _ rfl B.b2 Try.underlying48 rfl (by kernel_rfl)) rfl ?_
    exact ⟨by rw [HR.out], B.bel⟩
  rw [decide_eq_false hab] at hqq
  by_cases a5 : a.kind = 5
  · have ea : (a.kind == 5) = true := by rw [beq_iff_eq]; exact a5
    have ea4 : (a.kind == 4) = false := by rw [beq_eq_false_iff_ne]; omega
    have ra : refers a = false := by simp [refers, a5]
    rcases hq : refers b with _ | _
    · have HQ := Aside0.mk hq
      have HRA := Aside0.mk ra
      have HR : Hid (res = top) := Lib.hid (by
        rw [← HRES.out]; unfold merge
        rw [if_neg hab, if_neg (by rw [hq]; simp), if_neg (by rw [ra]; simp), if_pos (.inl (by omega))])
      clear hq ra
      by_cases b5 : b.kind = 5
      · have eb : (b.kind == 5) = true := by rw [beq_iff_eq]; exact b5
        clear a5 b5
        go_enter Try.func76, Try.ntmps76
        go_wp2_with fail
        refine (refers_is (t := b) HQ.out _).mono ?_
        rintro e w1 ⟨rfl, hb1⟩
        have B := (Bx4.new w (tyO a) (tyO b) (tyO default) (tyO top)).below hb1
        obtain ⟨x0, x1⟩ := Bx.two ⟨B.b0⟩
        obtain ⟨y0, y1⟩ := Bx.two ⟨B.b1⟩
        obtain ⟨r0, r1⟩ := Bx.two ⟨B.b2⟩
        obtain ⟨t0, t1⟩ := Bx.two ⟨B.b3⟩
        have hfz : ∀ j, w1.frozen? ⟨w.heap.size + 1 + 1, j, none⟩ = false := fun j => by unfold World.frozen?; rw [B.b2]; simp [tyO]
        go_wp2_with fail
        refine (refers_is (t := a) HRA.out _).mono ?_
        rintro e w2 ⟨rfl, hb2⟩
        replace B := B.below hb2
        clear x0 x1 y0 y1 r0 r1 t0 t1 hfz
        obtain ⟨x0, x1⟩ := Bx.two ⟨B.b0⟩
        obtain ⟨y0, y1⟩ := Bx.two ⟨B.b1⟩
        obtain ⟨r0, r1⟩ := Bx.two ⟨B.b2⟩
        obtain ⟨t0, t1⟩ := Bx.two ⟨B.b3⟩
        have hfz : ∀ j, w2.frozen? ⟨w.heap.size + 1 + 1, j, none⟩ = false := fun j => by unfold World.frozen?; rw [B.b2]; simp [tyO]
        go_wp2
        have C := chain2 (v0 := .int .i64 (top).kind) (v1 := .string (top).cls) B.bel (by omega) B.b2
        refine bodyPost_ret (results_cell_row rfl _ _ _ _ _ _ _ rfl C.2 Try.underlying48 rfl (by kernel_rfl)) rfl ?_
        exact ⟨by rw [HR.out], C.1⟩
      · have eb : (b.kind == 5) = false := by rw [beq_eq_false_iff_ne]; exact b5
        clear a5
        go_enter Try.func76, Try.ntmps76
        go_wp2_with fail
        refine (refers_is (t := b) HQ.out _).mono ?_
        rintro e w1 ⟨rfl, hb1⟩
        have B := (Bx4.new w (tyO a) (tyO b) (tyO default) (tyO top)).below hb1
        obtain ⟨x0, x1⟩ := Bx.two ⟨B.b0⟩
        obtain ⟨y0, y1⟩ := Bx.two ⟨B.b1⟩
        obtain ⟨r0, r1⟩ := Bx.two ⟨B.b2⟩
        obtain ⟨t0, t1⟩ := Bx.two ⟨B.b3⟩
        have hfz : ∀ j, w1.frozen? ⟨w.heap.size + 1 + 1, j, none⟩ = false := fun j => by unfold World.frozen?; rw [B.b2]; simp [tyO]
        go_wp2
        have C := chain2 (v0 := .int .i64 (top).kind) (v1 := .string (top).cls) B.bel (by omega) B.b2
        refine bodyPost_ret (results_cell_row rfl _ _ _ _ _ _ _ rfl C.2 Try.underlying48 rfl (by kernel_rfl)) rfl ?_
        exact ⟨by rw [HR.out], C.1⟩
    · have HQ := Aside0.mk hq
      have HR : Hid (res = b) := Lib.hid (by
        rw [← HRES.out]; unfold merge
        rw [if_neg hab, if_pos ⟨a5, hq⟩])
      clear hq ra a5
      go_enter Try.func76, Try.ntmps76
      go_wp2_with fail
      refine (refers_is (t := b) HQ.out _).mono ?_
      rintro e w1 ⟨rfl, hb1⟩
      have B := (Bx4.new w (tyO a) (tyO b) (tyO default) (tyO top)).below hb1
      obtain ⟨x0, x1⟩ := Bx.two ⟨B.b0⟩
      obtain ⟨y0, y1⟩ := Bx.two ⟨B.b1⟩
      obtain ⟨r0, r1⟩ := Bx.two ⟨B.b2⟩
      obtain ⟨t0, t1⟩ := Bx.two ⟨B.b3⟩
      have hfz : ∀ j, w1.frozen? ⟨w.heap.size + 1 + 1, j, none⟩ = false := fun j => by unfold World.frozen?; rw [B.b2]; simp [tyO]
      go_wp2
      have C := chain2 (v0 := .int .i64 (b).kind) (v1 := .string (b).cls) B.bel (by omega) B.b2
      refine bodyPost_ret (results_cell_row rfl _ _ _ _ _ _ _ rfl C.2 Try.underlying48 rfl (by kernel_rfl)) rfl ?_
      exact ⟨by rw [HR.out], C.1⟩
  have ea : (a.kind == 5) = false := by rw [beq_eq_false_iff_ne]; exact a5
  by_cases b5 : b.kind = 5
  · have eb : (b.kind == 5) = true := by rw [beq_iff_eq]; exact b5
    have eb4 : (b.kind == 4) = false := by rw [beq_eq_false_iff_ne]; omega
    rcases hq : refers a with _ | _
    · have HQ := Aside0.mk hq
      have ea4 : (a.kind == 4) = false := by
        rw [beq_eq_false_iff_ne]
        intro e
        simp [refers, e] at hq
      have ha4 : ¬ a.kind = 4 := by
        intro e
        simp [refers, e] at hq
      have HR : Hid (res = top) := Lib.hid (by
        rw [← HRES.out]; unfold merge
        rw [if_neg hab, if_neg (fun e => a5 e.1), if_neg (by rw [hq]; simp), if_pos (.inl ha4)])
      clear hq b5
      go_enter Try.func76, Try.ntmps76
      go_wp2_with fail
      refine (refers_is (t := a) HQ.out _).mono ?_
      rintro e w1 ⟨rfl, hb1⟩
      have B := (Bx4.new w (tyO a) (tyO b) (tyO default) (tyO top)).below hb1
      obtain ⟨x0, x1⟩ := Bx.two ⟨B.b0⟩
      obtain ⟨y0, y1⟩ := Bx.two ⟨B.b1⟩
      obtain ⟨r0, r1⟩ := Bx.two ⟨B.b2⟩
      obtain ⟨t0, t1⟩ := Bx.two ⟨B.b3⟩
      have hfz : ∀ j, w1.frozen? ⟨w.heap.size + 1 + 1, j, none⟩ = false := fun j => by unfold World.frozen?; rw [B.b2]; simp [tyO]
      go_wp2
      have C := chain2 (v0 := .int .i64 (top).kind) (v1 := .string (top).cls) B.bel (by omega) B.b2
      refine bodyPost_ret (results_cell_row rfl _ _ _ _ _ _ _ rfl C.2 Try.underlying48 rfl (by kernel_rfl)) rfl ?_
      exact ⟨by rw [HR.out], C.1⟩
    · have HQ := Aside0.mk hq
      have HR : Hid (res = a) := Lib.hid (by
        rw [← HRES.out]; unfold merge
        rw [if_neg hab, if_neg (fun e => a5 e.1), if_pos ⟨b5, hq⟩])
      clear hq b5
      go_enter Try.func76, Try.ntmps76
      go_wp2_with fail
      refine (refers_is (t := a) HQ.out _).mono ?_
      rintro e w1 ⟨rfl, hb1⟩
      have B := (Bx4.new w (tyO a) (tyO b) (tyO default) (tyO top)).below hb1
      obtain ⟨x0, x1⟩ := Bx.two ⟨B.b0⟩
      obtain ⟨y0, y1⟩ := Bx.two ⟨B.b1⟩
      obtain ⟨r0, r1⟩ := Bx.two ⟨B.b2⟩
      obtain ⟨t0, t1⟩ := Bx.two ⟨B.b3⟩
      have hfz : ∀ j, w1.frozen? ⟨w.heap.size + 1 + 1, j, none⟩ = false := fun j => by unfold World.frozen?; rw [B.b2]; simp [tyO]
      go_wp2
      have C := chain2 (v0 := .int .i64 (a).kind) (v1 := .string (a).cls) B.bel (by omega) B.b2
      refine bodyPost_ret (results_cell_row rfl _ _ _ _ _ _ _ rfl C.2 Try.underlying48 rfl (by kernel_rfl)) rfl ?_
      exact ⟨by rw [HR.out], C.1⟩
  have eb : (b.kind == 5) = false := by rw [beq_eq_false_iff_ne]; exact b5
  by_cases p4 : a.kind = 4 ∧ b.kind = 4
  · obtain ⟨a4, b4⟩ := p4
    have ea4 : (a.kind != 4) = false := by simp [a4]
    have eb4 : (b.kind != 4) = false := by simp [b4]
    have HU : Hid (res = if common h a.cls b.cls ≠ Pl.nil then ⟨4, common h a.cls b.cls⟩ else top) := Lib.hid (by
      rw [← HRES.out]; unfold merge
      rw [if_neg hab, if_neg (fun e => a5 e.1), if_neg (fun e => b5 e.1), if_neg (by omega)])
    obtain ⟨c, hc⟩ : ∃ c, common h a.cls b.cls = c := ⟨_, rfl⟩
    rw [hc] at HU
    have HC := Aside0.mk hc
    clear hc a4 b4 a5 b5
    go_enter Try.func76, Try.ntmps76
    go_wp2_with fail
    refine (common_is (HH.out.below (Bx4.new w _ _ _ _).bel) HG.out HC.out).mono ?_
    rintro e w1 ⟨rfl, hb1⟩
    have B := (Bx4.new w _ _ _ _).below hb1
    obtain ⟨x0, x1⟩ := Bx.two ⟨B.b0⟩
    obtain ⟨y0, y1⟩ := Bx.two ⟨B.b1⟩
    obtain ⟨r0, r1⟩ := Bx.two ⟨B.b2⟩
    obtain ⟨t0, t1⟩ := Bx.two ⟨B.b3⟩
    have hfz : ∀ j, w1.frozen? ⟨w.heap.size + 1 + 1, j, none⟩ = false := fun j => by unfold World.frozen?; rw [B.b2]; simp [tyO]
    by_cases hz : c.size = 0
    · have e1 := str_zero hz
      have HR : Hid (res = top) := Lib.hid (by rw [HU.out, if_neg (by rw [str_nil hz]; simp [Pl.nil])])
      go_wp2
      have C := chain2 (v0 := .int .i64 (top).kind) (v1 := .string (top).cls) B.bel (by omega) B.b2
      refine bodyPost_ret (results_cell_row rfl _ _ _ _ _ _ _ rfl C.2 Try.underlying48 rfl (by kernel_rfl)) rfl ?_
      exact ⟨by rw [HR.out], C.1⟩
    · have e1 := str_some hz
      have HR : Hid (res = ⟨4, c⟩) := Lib.hid (by rw [HU.out, if_pos (fun e => hz (by rw [e]; rfl))])
      go_wp2
      have C := chain2 (v0 := .int .i64 (⟨4, c⟩ : Ty).kind) (v1 := .string (⟨4, c⟩ : Ty).cls) B.bel (by omega) B.b2
      refine bodyPost_ret (results_cell_row rfl _ _ _ _ _ _ _ rfl C.2 Try.underlying48 rfl (by kernel_rfl)) rfl ?_
      exact ⟨by rw [HR.out], C.1⟩
  · have HR : Hid (res = top) := Lib.hid (by
      rw [← HRES.out]; unfold merge
      rw [if_neg hab, if_neg (fun e => a5 e.1), if_neg (fun e => b5 e.1), if_pos (by omega)])
    by_cases a4 : a.kind = 4
    · have b4 : ¬ b.kind = 4 := fun e => p4 ⟨a4, e⟩
      have ea4 : (a.kind != 4) = false := by simp [a4]
      have eb4 : (b.kind != 4) = true := by simp [b4]
      clear a4
      go_enter Try.func76, Try.ntmps76
      go_wp2
      have B := Bx4.new w (tyO a) (tyO b) (tyO (top)) (tyO top)
      refine bodyPost_ret (results_cell_row rfl _ _ _ _ _ _ _ rfl B.b2 Try.underlying48 rfl (by kernel_rfl)) rfl ?_
      exact ⟨by rw [HR.out], B.bel⟩
    · have ea4 : (a.kind != 4) = true := by simp [a4]
      go_enter Try.func76, Try.ntmps76
      go_wp2
      have B := Bx4.new w (tyO a) (tyO b) (tyO (top)) (tyO top)
      refine bodyPost_ret (results_cell_row rfl _ _ _ _ _ _ _ rfl B.b2 Try.underlying48 rfl (by kernel_rfl)) rfl ?_
      exact ⟨by rw [HR.out], B.bel⟩
theorem merge_is {g : Nat} {h : Hier} {a b : Ty} {w : World} (H : HierIs w g h) (hg : Good h) {q : Ty} (hq : merge h a b = q) :
    Calls Try.prog 76 #[.pointer (some ⟨g, 0, none⟩), .agg #[.int .i64 a.kind, .string a.cls], .agg #[.int .i64 b.kind, .string b.cls]] w fun e w' => e = .returned (.agg #[.int .i64 q.kind, .string q.cls]) ∧ Below w.heap.size w w' := by
  have := merge_any g h a b w H hg
  rwa [hq] at this
end Go.Proofs.Ytpdjkclacbgneaa
