/- Methods and classes as they lie in memory; class.ins, class.handler. -/
import Derived.Test.YtpdjkclacbgneaaCls3
import Derived.Deep.QuietTactic
import Derived.BigQuiet
set_option linter.unusedVariables false
set_option linter.unusedSimpArgs false
namespace Go.Proofs.Ytpdjkclacbgneaa
open Go.RowKit Go.Shelf Go.Proofs.YtpdjkclacbgneaaW.PrintWords Go.Proofs.Ytpdjkclacbgneaa.Pl

def mtK : Kd Mt := Kd.iso (Kd.pair Kd.string (Kd.pair (Kd.slice 48 tyK) (Kd.pair tyK (Kd.pair (Kd.int .i64) (Kd.pair (Kd.int .i64) (Kd.pair (Kd.slice 26 inK) (Kd.slice 155 hnK))))))) fun m => (m.name, m.params, m.ret, m.locals, m.stack, m.code, m.handlers)
def clK : Kd Cl := Kd.iso (Kd.pair Kd.string (Kd.pair Kd.string (Kd.pair (Kd.slice 32 cnK) (Kd.pair (Kd.slice 50 fdK) (Kd.slice 66 mtK))))) fun c => (c.name, c.super, c.pool, c.fields, c.methods)
theorem mtK_open {w : World} {m : Mt} {cs : List Value} (h : mtK.K w m cs) : ∃ A0 c0 A1 c1 A2 c2, cs = [.string m.name, .slice A0 m.params.length c0, .int .i64 m.ret.kind, .string m.ret.cls, .int .i64 m.locals, .int .i64 m.stack, .slice A1 m.code.length c1, .slice A2 m.handlers.length c2] ∧
    (m.params.length ≤ c0 ∧ m.code.length ≤ c1 ∧ m.handlers.length ≤ c2) ∧ tyK.C w A0 m.params.length m.params ∧ inK.C w A1 m.code.length m.code ∧ hnK.C w A2 m.handlers.length m.handlers := by
  obtain ⟨d0, e0, rfl, h0, d1, e1, rfl, h1, d2, e2, rfl, h2, d3, e3, rfl, h3, d4, e4, rfl, h4, d5, e5, rfl, h5, h6⟩ := h
  obtain rfl : d0 = [.string m.name] := h0
  obtain ⟨A0, c0, rfl, hc0, r0⟩ := h1
  obtain rfl := tyK_open h2
  obtain rfl : d3 = [.int .i64 m.locals] := h3
  obtain rfl : d4 = [.int .i64 m.stack] := h4
  obtain ⟨A1, c1, rfl, hc1, r1⟩ := h5
  obtain ⟨A2, c2, rfl, hc2, r2⟩ := h6
  exact ⟨A0, c0, A1, c1, A2, c2, rfl, ⟨hc0, hc1, hc2⟩, r0, r1, r2⟩
theorem mtK_mk {w : World} {m : Mt} {A0 A1 A2 : Option Addr} {c0 c1 c2 : Nat} (hc : m.params.length ≤ c0 ∧ m.code.length ≤ c1 ∧ m.handlers.length ≤ c2) (r0 : tyK.C w A0 m.params.length m.params) (r1 : inK.C w A1 m.code.length m.code) (r2 : hnK.C w A2 m.handlers.length m.handlers) :
    mtK.K w m [.string m.name, .slice A0 m.params.length c0, .int .i64 m.ret.kind, .string m.ret.cls, .int .i64 m.locals, .int .i64 m.stack, .slice A1 m.code.length c1, .slice A2 m.handlers.length c2] :=
  ⟨[_], _, rfl, rfl, [_], _, rfl, ⟨A0, c0, rfl, hc.1, r0⟩, [_, _], _, rfl, ⟨[_], _, rfl, rfl, rfl⟩, [_], _, rfl, rfl, [_], _, rfl, rfl, [_], _, rfl, ⟨A1, c1, rfl, hc.2.1, r1⟩, ⟨A2, c2, rfl, hc.2.2, r2⟩⟩
theorem clK_open {w : World} {m : Cl} {cs : List Value} (h : clK.K w m cs) : ∃ A0 c0 A1 c1 A2 c2, cs = [.string m.name, .string m.super, .slice A0 m.pool.length c0, .slice A1 m.fields.length c1, .slice A2 m.methods.length c2] ∧
    (m.pool.length ≤ c0 ∧ m.fields.length ≤ c1 ∧ m.methods.length ≤ c2) ∧ cnK.C w A0 m.pool.length m.pool ∧ fdK.C w A1 m.fields.length m.fields ∧ mtK.C w A2 m.methods.length m.methods := by
  obtain ⟨d0, e0, rfl, h0, d1, e1, rfl, h1, d2, e2, rfl, h2, d3, e3, rfl, h3, h4⟩ := h
  obtain rfl : d0 = [.string m.name] := h0
  obtain rfl : d1 = [.string m.super] := h1
  obtain ⟨A0, c0, rfl, hc0, r0⟩ := h2
  obtain ⟨A1, c1, rfl, hc1, r1⟩ := h3
  obtain ⟨A2, c2, rfl, hc2, r2⟩ := h4
  exact ⟨A0, c0, A1, c1, A2, c2, rfl, ⟨hc0, hc1, hc2⟩, r0, r1, r2⟩
theorem clK_mk {w : World} {m : Cl} {A0 A1 A2 : Option Addr} {c0 c1 c2 : Nat} (hc : m.pool.length ≤ c0 ∧ m.fields.length ≤ c1 ∧ m.methods.length ≤ c2) (r0 : cnK.C w A0 m.pool.length m.pool) (r1 : fdK.C w A1 m.fields.length m.fields) (r2 : mtK.C w A2 m.methods.length m.methods) :
    clK.K w m [.string m.name, .string m.super, .slice A0 m.pool.length c0, .slice A1 m.fields.length c1, .slice A2 m.methods.length c2] :=
  ⟨[_], _, rfl, rfl, [_], _, rfl, rfl, [_], _, rfl, ⟨A0, c0, rfl, hc.1, r0⟩, [_], _, rfl, ⟨A1, c1, rfl, hc.2.1, r1⟩, ⟨A2, c2, rfl, hc.2.2, r2⟩⟩

theorem csame {P : Program} {f : FuncId} {args : Array Value} {w : World} {v : Value} (h : Calls P f args w fun e w' => e = .returned v ∧ w = w') : Calls P f args w fun e w' => e = .returned v ∧ w' = w := h.mono fun _ _ ⟨a, b⟩ => ⟨a, b.symm⟩
/-! ### boxes laid in a row -/
theorem box2 {w W : World} {o0 o1 : Obj} (hb : Below ((w.alloc o0).alloc o1).heap.size ((w.alloc o0).alloc o1) W) : Below w.heap.size w W ∧ W.heap[w.heap.size]? = some o0 ∧ W.heap[w.heap.size + 1]? = some o1 := by
  have h1 : ((w.alloc o0).alloc o1).heap[w.heap.size]? = some o0 := blk_alloc (blk_new w o0) o1
  have h2 : ((w.alloc o0).alloc o1).heap[w.heap.size + 1]? = some o1 := by have := blk_new (w.alloc o0) o1; rwa [World.size_alloc] at this
  exact ⟨bthen (bthen (balloc _ _) (balloc _ _)) hb, blk_below h1 hb, blk_below h2 hb⟩
theorem box3 {w W : World} {o0 o1 o2 : Obj} (hb : Below (((w.alloc o0).alloc o1).alloc o2).heap.size (((w.alloc o0).alloc o1).alloc o2) W) : Below w.heap.size w W ∧ W.heap[w.heap.size]? = some o0 ∧ W.heap[w.heap.size + 1]? = some o1 ∧ W.heap[w.heap.size + 1 + 1]? = some o2 := by
  have h1 : (((w.alloc o0).alloc o1).alloc o2).heap[w.heap.size]? = some o0 := blk_alloc (blk_alloc (blk_new w o0) o1) o2
  have h2 : (((w.alloc o0).alloc o1).alloc o2).heap[w.heap.size + 1]? = some o1 := by have := blk_alloc (blk_new (w.alloc o0) o1) o2; rwa [World.size_alloc] at this
  have h3 : (((w.alloc o0).alloc o1).alloc o2).heap[w.heap.size + 1 + 1]? = some o2 := by have := blk_new ((w.alloc o0).alloc o1) o2; rwa [World.size_alloc, World.size_alloc] at this
  exact ⟨bthen (bthen (bthen (balloc _ _) (balloc _ _)) (balloc _ _)) hb, blk_below h1 hb, blk_below h2 hb, blk_below h3 hb⟩

set_option maxHeartbeats 4000000 in
set_option maxRecDepth 10000 in
theorem ins_any (c : Cl) (m : Mt) (i : In) (cc cm : List Value) (w : World) (hc : clK.K w c cc) (hm : mtK.K w m cm) :
    Calls Try.prog 116 #[.agg cc.toArray, .agg cm.toArray, .agg #[.int .i64 i.op, .int .i64 i.a]] w fun e w' => e = .returned (.int .i64 (ins c m i)) ∧ Below w.heap.size w w' := by
  obtain ⟨iop, ia⟩ := i
  simp only
  obtain ⟨A0, c0, A1, c1, A2, c2, rfl, ⟨k0, k1, k2⟩, r0, r1, r2⟩ := clK_open hc
  obtain ⟨B0, d0, B1, d1, B2, d2, rfl, ⟨j0, j1, j2⟩, s0, s1, s2⟩ := mtK_open hm
  have CC := cells_cn r0
  clear hc hm r0 r1 r2 s0 s1 s2
  go_enter Try.func116, Try.ntmps116
  go_wp2_with fail
  generalize hq : codeIs ⟨iop, ia⟩ = q
  refine (codeIs_is (i := ⟨iop, ia⟩) (Lib.hid hq) _).mono ?_
  rintro e W ⟨rfl, hb⟩
  obtain ⟨hW, b0, b1, b2⟩ := box3 hb
  clear hb
  obtain ⟨x0, x1, x2, x3, x4⟩ := Bx.five ⟨b0⟩
  obtain ⟨y0, y1, y2, y3, y4, y5, y6, y7⟩ := Bx.eight ⟨b1⟩
  obtain ⟨z0, z1⟩ := Bx.two ⟨b2⟩
  clear b0 b1 b2
  have CW := CC.below hW
  clear CC
  have hpl := CW.1
  cases q with
  | false =>
    have HR : Hid (ins c m ⟨iop, ia⟩ = 40) := Lib.hid (by unfold ins; rw [if_pos hq])
    clear hq
    go_wp2
    go_ret
    exact ⟨by rw [HR.out]; rfl, hW⟩
  | true =>
    have hn0 : ¬ codeIs ⟨iop, ia⟩ = false := by rw [hq]; decide
    have ha : operand iop = 0 ∨ (0 ≤ ia ∧ ia ≤ 999) := by
      unfold codeIs at hq
      by_cases h1 : operand iop = -1
      · rw [if_pos h1] at hq; cases hq
      · rw [if_neg h1] at hq
        by_cases h2 : operand iop = 0
        · exact .inl h2
        · rw [if_neg h2] at hq
          simp only [Bool.and_eq_true, decide_eq_true_iff] at hq
          exact .inr hq
    have HU : Hid (ins c m ⟨iop, ia⟩ = if operand iop = 1 then (if m.locals ≤ ia then 52 else 0)
      else if operand iop = 2 then (if (c.pool.length : Int) ≤ ia then 51 else if kindAt c.pool ia ≠ asks iop then 51 else 0)
      else if operand iop = 3 then (if (m.code.length : Int) ≤ ia then 52 else 0) else 0) := Lib.hid (by unfold ins; rw [if_neg hn0])
    clear hq hn0
    generalize ho : operand iop = o at *
    have HO := Lib.hid ho
    clear ho
    by_cases o1 : o = 1
    · subst o1
      by_cases hl : m.locals ≤ ia
      all_goals
        have HR : Hid (ins c m ⟨iop, ia⟩ = _) := Lib.hid (by first | (rw [HU.out, if_pos rfl, if_pos hl]) | (rw [HU.out, if_pos rfl, if_neg hl]))
        clear HU
        go_wp2_with (go_at_call 112; (with_reducible refine (operand_is HO _).mono ?_); rintro e w' ⟨rfl, rfl⟩)
        go_ret
        exact ⟨by rw [HR.out]; rfl, hW⟩
    by_cases o2 : o = 2
    · subst o2
      have ha' : 0 ≤ ia ∧ ia ≤ 999 := by omega
      obtain ⟨a0, a1⟩ := ha'
      clear ha
      by_cases hl : (c.pool.length : Int) ≤ ia
      · have HR : Hid (ins c m ⟨iop, ia⟩ = 51) := Lib.hid (by rw [HU.out, if_neg (by decide), if_pos rfl, if_pos hl])
        clear HU
        have hd : decide ((c.pool.length : Int) ≤ ia) = true := by simp; omega
        go_wp2_with first
          | (go_at_call 112; (with_reducible refine (operand_is HO _).mono ?_); rintro e w' ⟨rfl, rfl⟩)
          | fail
        go_quiet (fail)
        go_wp2
        go_ret
        exact ⟨by rw [HR.out]; rfl, pw_below_drewN hW _⟩
      · obtain ⟨k, rfl⟩ := Int.eq_ofNat_of_zero_le a0
        have hkl : k < c.pool.length := by omega
        have hd : decide ((c.pool.length : Int) ≤ (k : Int)) = false := by simp; omega
        have hd2 : decide (c.pool.length ≤ k) = false := by simp; omega
        obtain ⟨ad, rfl, had⟩ := CW.2 (by omega)
        clear had
        generalize hx : c.pool.getD k default = x
        have l0 := CW.at0 hkl (v := .int .i64 x.kind) (by rw [← hx]; rfl)
        have hK : kindAt c.pool (k : Int) = x.kind := by unfold kindAt; rw [Int.toNat_natCast, hx]
        generalize hqa : asks iop = qa at *
        have HA := Lib.hid hqa
        clear hqa hx
        have h0k : (0 : Int) ≤ (k : Int) := by omega
        have hkl' : (k : Int) < (c.pool.length : Int) := by omega
        by_cases he : x.kind = qa
        · have HR : Hid (ins c m ⟨iop, (k : Int)⟩ = 0) := Lib.hid (by rw [HU.out, if_neg (by decide), if_pos rfl, if_neg hl, hK, if_neg (by simp [he])])
          clear HU
          generalize x.kind = xk at *
          subst he
          go_wp2_with first
            | (go_at_call 112; (with_reducible refine (operand_is HO _).mono ?_); rintro e w' ⟨rfl, rfl⟩)
            | fail
          go_quiet (first | (go_at_call 137; exact Calls.quiet_of_same (csame (asks_is HA _))))
          go_wp2
          go_ret
          exact ⟨by rw [HR.out]; rfl, pw_below_drewN hW _⟩
        · have HR : Hid (ins c m ⟨iop, (k : Int)⟩ = 51) := Lib.hid (by rw [HU.out, if_neg (by decide), if_pos rfl, if_neg hl, hK, if_pos he])
          clear HU
          generalize x.kind = xk at *
          have he' : (xk == qa) = false := by rw [beq_eq_false_iff_ne]; exact he
          go_wp2_with first
            | (go_at_call 112; (with_reducible refine (operand_is HO _).mono ?_); rintro e w' ⟨rfl, rfl⟩)
            | fail
          go_quiet (first | (go_at_call 137; exact Calls.quiet_of_same (csame (asks_is HA _))))
          go_wp2
          go_ret
          exact ⟨by rw [HR.out]; rfl, pw_below_drewN hW _⟩
    by_cases o3 : o = 3
    · subst o3
      by_cases hl : (m.code.length : Int) ≤ ia
      all_goals
        have HR : Hid (ins c m ⟨iop, ia⟩ = _) := Lib.hid (by first | (rw [HU.out, if_neg (by decide), if_neg (by decide), if_pos rfl, if_pos hl]) | (rw [HU.out, if_neg (by decide), if_neg (by decide), if_pos rfl, if_neg hl]))
        clear HU
        go_wp2_with (go_at_call 112; (with_reducible refine (operand_is HO _).mono ?_); rintro e w' ⟨rfl, rfl⟩)
        go_ret
        exact ⟨by rw [HR.out]; rfl, hW⟩
    · have HR : Hid (ins c m ⟨iop, ia⟩ = 0) := Lib.hid (by rw [HU.out, if_neg o1, if_neg o2, if_neg o3])
      clear HU
      go_wp2_with (go_at_call 112; (with_reducible refine (operand_is HO _).mono ?_); rintro e w' ⟨rfl, rfl⟩)
      go_ret
      exact ⟨by rw [HR.out]; rfl, hW⟩

set_option maxHeartbeats 4000000 in
set_option maxRecDepth 10000 in
theorem handler_any (c : Cl) (m : Mt) (h : Hn) (cc cm : List Value) (w : World) (hc : clK.K w c cc) (hm : mtK.K w m cm) :
    Calls Try.prog 117 #[.agg cc.toArray, .agg cm.toArray, .agg #[.int .i64 h.lo, .int .i64 h.hi, .int .i64 h.target, .int .i64 h.cls, .int .i64 h.depth]] w fun e w' => e = .returned (.int .i64 (handler c m h)) ∧ Below w.heap.size w w' := by
  obtain ⟨lo, hi, tg, cl, dp⟩ := h
  simp only
  obtain ⟨A0, c0, A1, c1, A2, c2, rfl, ⟨k0, k1, k2⟩, r0, r1, r2⟩ := clK_open hc
  obtain ⟨B0, d0, B1, d1, B2, d2, rfl, ⟨j0, j1, j2⟩, s0, s1, s2⟩ := mtK_open hm
  have CC := cells_cn r0
  have hcl := s1.2.1
  clear hc hm r0 r1 r2 s0 s1 s2
  have hpl := CC.1
  have HU : Hid (handler c m ⟨lo, hi, tg, cl, dp⟩ = if lo < 0 ∨ hi ≤ lo ∨ (m.code.length : Int) < hi ∨ tg < 0 ∨ (m.code.length : Int) ≤ tg then 52
    else if cl < -1 ∨ (c.pool.length : Int) ≤ cl ∨ (0 ≤ cl ∧ kindAt c.pool cl ≠ 3) then 51 else if dp < 0 ∨ 6 < dp then 32 else 0) := Lib.hid rfl
  generalize handler c m ⟨lo, hi, tg, cl, dp⟩ = res at *
  by_cases q1 : lo < 0
  · have HR : Hid (res = 52) := Lib.hid (by rw [HU.out, if_pos (by omega)])
    clear HU
    go_enter Try.func117, Try.ntmps117
    go_wp2
    go_ret
    exact ⟨by rw [HR.out]; rfl, bthen (bthen (balloc _ _) (balloc _ _)) (balloc _ _)⟩
  by_cases q2 : hi ≤ lo
  · have HR : Hid (res = 52) := Lib.hid (by rw [HU.out, if_pos (by omega)])
    clear HU
    go_enter Try.func117, Try.ntmps117
    go_wp2
    go_ret
    exact ⟨by rw [HR.out]; rfl, bthen (bthen (balloc _ _) (balloc _ _)) (balloc _ _)⟩
  by_cases q3 : (m.code.length : Int) < hi
  · have HR : Hid (res = 52) := Lib.hid (by rw [HU.out, if_pos (by omega)])
    clear HU
    go_enter Try.func117, Try.ntmps117
    go_wp2
    go_ret
    exact ⟨by rw [HR.out]; rfl, bthen (bthen (balloc _ _) (balloc _ _)) (balloc _ _)⟩
  by_cases q4 : tg < 0
  · have HR : Hid (res = 52) := Lib.hid (by rw [HU.out, if_pos (by omega)])
    clear HU
    go_enter Try.func117, Try.ntmps117
    go_wp2
    go_ret
    exact ⟨by rw [HR.out]; rfl, bthen (bthen (balloc _ _) (balloc _ _)) (balloc _ _)⟩
  by_cases q5 : (m.code.length : Int) ≤ tg
  · have HR : Hid (res = 52) := Lib.hid (by rw [HU.out, if_pos (by omega)])
    clear HU
    go_enter Try.func117, Try.ntmps117
    go_wp2
    go_ret
    exact ⟨by rw [HR.out]; rfl, bthen (bthen (balloc _ _) (balloc _ _)) (balloc _ _)⟩
  have HV : Hid (res = if cl < -1 ∨ (c.pool.length : Int) ≤ cl ∨ (0 ≤ cl ∧ kindAt c.pool cl ≠ 3) then 51 else if dp < 0 ∨ 6 < dp then 32 else 0) := Lib.hid (by rw [HU.out, if_neg (by omega)])
  clear HU
  by_cases q6 : cl < -1
  · have HR : Hid (res = 51) := Lib.hid (by rw [HV.out, if_pos (by omega)])
    clear HV
    go_enter Try.func117, Try.ntmps117
    go_wp2
    go_ret
    exact ⟨by rw [HR.out]; rfl, bthen (bthen (balloc _ _) (balloc _ _)) (balloc _ _)⟩
  by_cases q7 : (c.pool.length : Int) ≤ cl
  · have HR : Hid (res = 51) := Lib.hid (by rw [HV.out, if_pos (by omega)])
    clear HV
    go_enter Try.func117, Try.ntmps117
    go_wp2
    go_ret
    exact ⟨by rw [HR.out]; rfl, bthen (bthen (balloc _ _) (balloc _ _)) (balloc _ _)⟩
  by_cases q8 : 0 ≤ cl
  · obtain ⟨k, rfl⟩ := Int.eq_ofNat_of_zero_le q8
    have hkl : k < c.pool.length := by omega
    obtain ⟨ad, rfl, had⟩ := CC.2 (by omega)
    clear had
    generalize hx : c.pool.getD k default = x
    have l0 := CC.at0 hkl (v := .int .i64 x.kind) (by rw [← hx]; rfl)
    have hA : ∀ o0 o1 o2 : Obj, (((w.alloc o0).alloc o1).alloc o2).cell? (ad.add (k * 5)) = some (.int .i64 x.kind) := fun _ _ _ => pw_cell_below (bthen (bthen (balloc _ _) (balloc _ _)) (balloc _ _)) l0
    have hK : kindAt c.pool (k : Int) = x.kind := by unfold kindAt; rw [Int.toNat_natCast, hx]
    clear hx
    rw [hK] at HV
    clear hK
    generalize x.kind = xk at *
    have hkl' : (k : Int) < (c.pool.length : Int) := by omega
    by_cases hk3 : xk = 3
    · have HX : Hid (res = if dp < 0 ∨ 6 < dp then 32 else 0) := Lib.hid (by rw [HV.out, if_neg (by omega)])
      subst hk3
      clear HV
      by_cases q9 : dp < 0
      · have HR : Hid (res = 32) := Lib.hid (by rw [HX.out, if_pos (by omega)])
        clear HX
        go_enter Try.func117, Try.ntmps117
        go_wp2
        go_ret
        exact ⟨by rw [HR.out]; rfl, bthen (bthen (balloc _ _) (balloc _ _)) (balloc _ _)⟩
      by_cases q10 : 6 < dp
      · have HR : Hid (res = 32) := Lib.hid (by rw [HX.out, if_pos (by omega)])
        clear HX
        go_enter Try.func117, Try.ntmps117
        go_wp2
        go_ret
        exact ⟨by rw [HR.out]; rfl, bthen (bthen (balloc _ _) (balloc _ _)) (balloc _ _)⟩
      have HR : Hid (res = 0) := Lib.hid (by rw [HX.out, if_neg (by omega)])
      clear HX
      go_enter Try.func117, Try.ntmps117
      go_wp2
      go_ret
      exact ⟨by rw [HR.out]; rfl, bthen (bthen (balloc _ _) (balloc _ _)) (balloc _ _)⟩
    · have HR : Hid (res = 51) := Lib.hid (by rw [HV.out, if_pos (by omega)])
      have hk4 : (xk == 3) = false := by rw [beq_eq_false_iff_ne]; exact hk3
      clear HV
      go_enter Try.func117, Try.ntmps117
      go_wp2
      go_ret
      exact ⟨by rw [HR.out]; rfl, bthen (bthen (balloc _ _) (balloc _ _)) (balloc _ _)⟩
  · have HX : Hid (res = if dp < 0 ∨ 6 < dp then 32 else 0) := Lib.hid (by rw [HV.out, if_neg (by omega)])
    clear HV
    by_cases q9 : dp < 0
    · have HR : Hid (res = 32) := Lib.hid (by rw [HX.out, if_pos (by omega)])
      clear HX
      go_enter Try.func117, Try.ntmps117
      go_wp2
      go_ret
      exact ⟨by rw [HR.out]; rfl, bthen (bthen (balloc _ _) (balloc _ _)) (balloc _ _)⟩
    by_cases q10 : 6 < dp
    · have HR : Hid (res = 32) := Lib.hid (by rw [HX.out, if_pos (by omega)])
      clear HX
      go_enter Try.func117, Try.ntmps117
      go_wp2
      go_ret
      exact ⟨by rw [HR.out]; rfl, bthen (bthen (balloc _ _) (balloc _ _)) (balloc _ _)⟩
    have HR : Hid (res = 0) := Lib.hid (by rw [HX.out, if_neg (by omega)])
    clear HX
    go_enter Try.func117, Try.ntmps117
    go_wp2
    go_ret
    exact ⟨by rw [HR.out]; rfl, bthen (bthen (balloc _ _) (balloc _ _)) (balloc _ _)⟩
theorem ins_is {c : Cl} {m : Mt} {i : In} {cc cm : List Value} {w : World} (hc : clK.K w c cc) (hm : mtK.K w m cm) {v : Int} (h : ins c m i = v) :
    Calls Try.prog 116 #[.agg cc.toArray, .agg cm.toArray, .agg #[.int .i64 i.op, .int .i64 i.a]] w fun e w' => e = .returned (.int .i64 v) ∧ Below w.heap.size w w' := by
  have := ins_any c m i cc cm w hc hm
  rwa [h] at this
theorem handler_is {c : Cl} {m : Mt} {h : Hn} {cc cm : List Value} {w : World} (hc : clK.K w c cc) (hm : mtK.K w m cm) {v : Int} (hv : handler c m h = v) :
    Calls Try.prog 117 #[.agg cc.toArray, .agg cm.toArray, .agg #[.int .i64 h.lo, .int .i64 h.hi, .int .i64 h.target, .int .i64 h.cls, .int .i64 h.depth]] w fun e w' => e = .returned (.int .i64 v) ∧ Below w.heap.size w w' := by
  have := handler_any c m h cc cm w hc hm
  rwa [hv] at this
end Go.Proofs.Ytpdjkclacbgneaa
