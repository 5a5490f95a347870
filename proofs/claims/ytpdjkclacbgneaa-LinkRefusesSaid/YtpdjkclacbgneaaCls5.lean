/- class.body. -/
import Derived.Test.YtpdjkclacbgneaaCls4
set_option linter.unusedVariables false
set_option linter.unusedSimpArgs false
namespace Go.Proofs.Ytpdjkclacbgneaa
open Go.RowKit Go.Shelf Go.Proofs.YtpdjkclacbgneaaW.PrintWords Go.Proofs.Ytpdjkclacbgneaa.Pl

/-- Two boxes laid at the world's end, and what has grown behind. -/
structure Bx2 (w W : World) (o0 o1 : Obj) : Prop where
  bel : Below w.heap.size w W
  b0 : W.heap[w.heap.size]? = some o0
  b1 : W.heap[w.heap.size + 1]? = some o1
theorem Bx2.new (w : World) (o0 o1 : Obj) : Bx2 w ((w.alloc o0).alloc o1) o0 o1 := by
  obtain ⟨h, h0, h1⟩ := box2 (w := w) (o0 := o0) (o1 := o1) (Below.refl _ _)
  exact ⟨h, h0, h1⟩
theorem Bx2.below {w W W' : World} {o0 o1 : Obj} (h : Bx2 w W o0 o1) (hb : Below W.heap.size W W') : Bx2 w W' o0 o1 := ⟨bthen h.bel hb, blk_below h.b0 hb, blk_below h.b1 hb⟩
theorem Bx2.lt {w W : World} {o0 o1 : Obj} (h : Bx2 w W o0 o1) : w.heap.size < W.heap.size ∧ w.heap.size + 1 < W.heap.size := ⟨blk_lt h.b0, blk_lt h.b1⟩

set_option maxHeartbeats 400000 in
set_option maxRecDepth 10000 in
theorem body_any (c : Cl) (m : Mt) (cc cm : List Value) (w : World) (hc : clK.K w c cc) (hm : mtK.K w m cm) :
    Calls Try.prog 94 #[.agg cc.toArray, .agg cm.toArray] w fun e w' => e = .returned (.int .i64 (body c m)) ∧ Below w.heap.size w w' := by
  have HC : Aside0 (clK.K w c cc) := ⟨hc⟩
  have HM : Aside0 (mtK.K w m cm) := ⟨hm⟩
  obtain ⟨A0, c0, A1, c1, A2, c2, rfl, ⟨k0, k1, k2⟩, r0, r1, r2⟩ := clK_open hc
  obtain ⟨B0, d0, B1, d1, B2, d2, rfl, ⟨j0, j1, j2⟩, s0, s1, s2⟩ := mtK_open hm
  have CI := cells_in s1
  have CH := cells_hn s2
  clear hc hm r0 r1 r2 s0 s1 s2
  have HU : Hid (body c m = if m.code.length < 1 ∨ 200 < m.code.length then 32
    else if firstOf (ins c m) m.code ≠ 0 then firstOf (ins c m) m.code
    else if stops (m.code.getD (m.code.length - 1) default).op = false then 54
    else if 16 < m.handlers.length then 32
    else firstOf (handler c m) m.handlers) := Lib.hid rfl
  generalize body c m = res at *
  have hpl := CI.1
  have hph := CH.1
  generalize hn : m.code.length = n at *
  generalize hh : m.handlers.length = nh at *
  by_cases q1 : n < 1
  · have HR : Hid (res = 32) := Lib.hid (by rw [HU.out, if_pos (by omega)])
    clear HU
    have e1 : (n : Int) < 1 := by omega
    go_enter Try.func94, Try.ntmps94
    go_wp2
    go_ret
    exact ⟨by rw [HR.out]; rfl, bthen (balloc _ _) (balloc _ _)⟩
  by_cases q2 : 200 < n
  · have HR : Hid (res = 32) := Lib.hid (by rw [HU.out, if_pos (by omega)])
    clear HU
    have e1 : ¬ (n : Int) < 1 := by omega
    have e2 : (200 : Int) < (n : Int) := by omega
    go_enter Try.func94, Try.ntmps94
    go_wp2
    go_ret
    exact ⟨by rw [HR.out]; rfl, bthen (balloc _ _) (balloc _ _)⟩
  have e1 : ¬ (n : Int) < 1 := by omega
  have e2 : ¬ (200 : Int) < (n : Int) := by omega
  have HV : Hid (res = if firstOf (ins c m) m.code ≠ 0 then firstOf (ins c m) m.code
    else if stops (m.code.getD (n - 1) default).op = false then 54
    else if 16 < nh then 32
    else firstOf (handler c m) m.handlers) := Lib.hid (by rw [HU.out, if_neg (by omega)])
  clear HU
  obtain ⟨ad, rfl, had⟩ := CI.2 (by omega)
  clear had
  obtain ⟨p, hp⟩ : ∃ p, n = p + 1 := ⟨n - 1, by omega⟩
  have hpI : (n : Int) - 1 = (p : Int) := by omega
  have HP := Lib.hid hp
  clear hp
  go_enter Try.func94, Try.ntmps94
  go_wp2
  have B := Bx2.new w (.cells #[.string c.name, .string c.super, .slice A0 c.pool.length c0, .slice A1 c.fields.length c1, .slice A2 c.methods.length c2] 72) (.cells #[.string m.name, .slice B0 m.params.length d0, .int .i64 m.ret.kind, .string m.ret.cls, .int .i64 m.locals, .int .i64 m.stack, .slice (some ad) n d1, .slice B2 nh d2] 66)
  go_loopw [24] (fun s24 wr => ∃ kk : Nat, kk ≤ n ∧ s24 = .int .i64 kk ∧ Aside0 (Bx2 w wr (.cells #[.string c.name, .string c.super, .slice A0 c.pool.length c0, .slice A1 c.fields.length c1, .slice A2 c.methods.length c2] 72) (.cells #[.string m.name, .slice B0 m.params.length d0, .int .i64 m.ret.kind, .string m.ret.cls, .int .i64 m.locals, .int .i64 m.stack, .slice (some ad) n d1, .slice B2 nh d2] 66)) ∧ Aside0 (firstOf (ins c m) (m.code.drop kk) = firstOf (ins c m) m.code)) (fun s _ => n - (intOf s).toNat)
  case atStart => exact ⟨0, Nat.zero_le _, rfl, ⟨B⟩, ⟨rfl⟩⟩
  case round =>
    clear B
    obtain ⟨kk, hkk, rfl, BW, HL⟩ := hrel
    obtain ⟨lt0, lt1⟩ := BW.out.lt
    obtain ⟨x0, x1, x2, x3, x4⟩ := Bx.five ⟨BW.out.b0⟩
    obtain ⟨y0, y1, y2, y3, y4, y5, y6, y7⟩ := Bx.eight ⟨BW.out.b1⟩
    have CW := CI.below BW.out.bel
    by_cases hlt : kk < n
    · have hltz : (kk : Int) < (n : Int) := by omega
      generalize hx : m.code.getD kk default = x
      have HX : m.code[kk]? = some x := by rw [← hx]; exact getD_some _ (by omega)
      have l0 := CW.at0 hlt (v := .int .i64 x.op) (by rw [← hx]; rfl)
      have l1 := CW.at_ hlt (i := 1) (by decide) (v := .int .i64 x.a) (by rw [← hx]; rfl)
      obtain ⟨v, hv⟩ : ∃ v, ins c m x = v := ⟨_, rfl⟩
      have HS : Hid (firstOf (ins c m) (m.code.drop kk) = if v = 0 then firstOf (ins c m) (m.code.drop (kk + 1)) else v) := Lib.hid (by rw [firstOf_step HX, hv])
      have hv := Lib.hid hv
      clear hx HX
      go_wp2_with fail
      have hbx := bthen BW.out.bel (balloc wr (.cells #[.int .i64 x.op, .int .i64 x.a] 26))
      refine (ins_is (clK.K_below hbx HC.out) (mtK.K_below hbx HM.out) hv.out).mono ?_
      rintro e w' ⟨rfl, hb⟩
      have hw' := bthen (balloc _ _) hb
      clear hbx hb
      by_cases hv0 : v = 0
      · subst hv0
        have HN : Hid (firstOf (ins c m) (m.code.drop (kk + 1)) = firstOf (ins c m) m.code) := Lib.hid (by rw [← HL.out, HS.out, if_pos rfl])
        clear hv HS
        go_wp2
        go_roundw
        case rel => exact ⟨kk + 1, by omega, by go_num, ⟨BW.out.below hw'⟩, ⟨HN.out⟩⟩
        case measure => simp [intOf]; omega
      · have hne : (v == 0) = false := by rw [beq_eq_false_iff_ne]; exact hv0
        have HR : Hid (res = v) := Lib.hid (by
          have h1 : firstOf (ins c m) m.code = v := by rw [← HL.out, HS.out, if_neg hv0]
          rw [HV.out, h1, if_pos hv0])
        clear hv HS HV
        go_wp2
        go_ret
        exact ⟨by rw [HR.out]; rfl, bthen BW.out.bel hw'⟩
    · have hltz : ¬ (kk : Int) < (n : Int) := by omega
      have hkn : kk = n := by omega
      subst hkn
      obtain ⟨x, hx⟩ : ∃ x, m.code.getD p default = x := ⟨_, rfl⟩
      have HV2 : Hid (res = if stops x.op = false then 54
        else if 16 < nh then 32 else firstOf (handler c m) m.handlers) := Lib.hid (by
          have h1 : firstOf (ins c m) m.code = 0 := by rw [← HL.out, List.drop_of_length_le (by omega)]; rfl
          have h2 : kk - 1 = p := by have := HP.out; omega
          rw [HV.out, h1, if_neg (by decide), h2, hx])
      clear HV HL
      have hpn : p < kk := by have := HP.out; omega
      have hpz : (p : Int) < (kk : Int) := by omega
      have hp0 : (0 : Int) ≤ (p : Int) := by omega
      have l0 := CW.at0 hpn (v := .int .i64 x.op) (by rw [← hx]; rfl)
      clear hx
      rcases hst : stops x.op with _ | _
      · have HR : Hid (res = 54) := Lib.hid (by rw [HV2.out, if_pos hst])
        have HT := Lib.hid hst
        clear HV2 hst
        go_wp2_with (go_at_call 82; (with_reducible refine (stops_is HT _).mono ?_); rintro e w' ⟨rfl, rfl⟩)
        go_ret
        exact ⟨by rw [HR.out]; rfl, BW.out.bel⟩
      have HV3 : Hid (res = if 16 < nh then 32 else firstOf (handler c m) m.handlers) := Lib.hid (by rw [HV2.out, if_neg (by rw [hst]; decide)])
      have HT := Lib.hid hst
      clear HV2 hst
      by_cases q3 : 16 < nh
      · have HR : Hid (res = 32) := Lib.hid (by rw [HV3.out, if_pos q3])
        have q3z : (16 : Int) < (nh : Int) := by omega
        clear HV3
        go_wp2_with (go_at_call 82; (with_reducible refine (stops_is HT _).mono ?_); rintro e w' ⟨rfl, rfl⟩)
        go_ret
        exact ⟨by rw [HR.out]; rfl, BW.out.bel⟩
      have q3z : ¬ (16 : Int) < (nh : Int) := by omega
      have HV4 : Hid (res = firstOf (handler c m) m.handlers) := Lib.hid (by rw [HV3.out, if_neg q3])
      clear HV3
      go_wp2_with (go_at_call 82; (with_reducible refine (stops_is HT _).mono ?_); rintro e w' ⟨rfl, rfl⟩)
      clear x0 x1 x2 x3 x4 y0 y1 y2 y3 y4 y5 y6 y7 l0 lt0 lt1 HT
      go_loopw [54] (fun s54 wr => ∃ kk1 : Nat, kk1 ≤ nh ∧ s54 = .int .i64 kk1 ∧ Aside0 (Bx2 w wr (.cells #[.string c.name, .string c.super, .slice A0 c.pool.length c0, .slice A1 c.fields.length c1, .slice A2 c.methods.length c2] 72) (.cells #[.string m.name, .slice B0 m.params.length d0, .int .i64 m.ret.kind, .string m.ret.cls, .int .i64 m.locals, .int .i64 m.stack, .slice (some ad) kk d1, .slice B2 nh d2] 66)) ∧ Aside0 (firstOf (handler c m) (m.handlers.drop kk1) = firstOf (handler c m) m.handlers)) (fun s _ => nh - (intOf s).toNat)
      case atStart => exact ⟨0, Nat.zero_le _, rfl, BW, ⟨rfl⟩⟩
      case round =>
        clear BW CW
        obtain ⟨k1, hkk1, rfl, BW, HL⟩ := hrel
        obtain ⟨lt0, lt1⟩ := BW.out.lt
        obtain ⟨x0, x1, x2, x3, x4⟩ := Bx.five ⟨BW.out.b0⟩
        obtain ⟨y0, y1, y2, y3, y4, y5, y6, y7⟩ := Bx.eight ⟨BW.out.b1⟩
        have CW := CH.below BW.out.bel
        by_cases hlt : k1 < nh
        · have hltz : (k1 : Int) < (nh : Int) := by omega
          obtain ⟨ae, rfl, had⟩ := CW.2 (by omega)
          clear had
          generalize hx : m.handlers.getD k1 default = x
          have HX : m.handlers[k1]? = some x := by rw [← hx]; exact getD_some _ (by omega)
          have l0 := CW.at0 hlt (v := .int .i64 x.lo) (by rw [← hx]; rfl)
          have l1 := CW.at_ hlt (i := 1) (by decide) (v := .int .i64 x.hi) (by rw [← hx]; rfl)
          have l2 := CW.at_ hlt (i := 2) (by decide) (v := .int .i64 x.target) (by rw [← hx]; rfl)
          have l3 := CW.at_ hlt (i := 3) (by decide) (v := .int .i64 x.cls) (by rw [← hx]; rfl)
          have l4 := CW.at_ hlt (i := 4) (by decide) (v := .int .i64 x.depth) (by rw [← hx]; rfl)
          obtain ⟨v, hv⟩ : ∃ v, handler c m x = v := ⟨_, rfl⟩
          have HS : Hid (firstOf (handler c m) (m.handlers.drop k1) = if v = 0 then firstOf (handler c m) (m.handlers.drop (k1 + 1)) else v) := Lib.hid (by rw [firstOf_step HX, hv])
          have hv := Lib.hid hv
          clear hx HX
          go_wp2_with fail
          have hbx := bthen BW.out.bel (balloc _ (.cells #[.int .i64 x.lo, .int .i64 x.hi, .int .i64 x.target, .int .i64 x.cls, .int .i64 x.depth] 155))
          refine (handler_is (clK.K_below hbx HC.out) (mtK.K_below hbx HM.out) hv.out).mono ?_
          rintro e w' ⟨rfl, hb⟩
          have hw' := bthen (balloc _ _) hb
          clear hbx hb
          by_cases hv0 : v = 0
          · subst hv0
            have HN : Hid (firstOf (handler c m) (m.handlers.drop (k1 + 1)) = firstOf (handler c m) m.handlers) := Lib.hid (by rw [← HL.out, HS.out, if_pos rfl])
            clear hv HS
            go_wp2
            go_roundw
            case rel => exact ⟨k1 + 1, by omega, by go_num, ⟨BW.out.below hw'⟩, ⟨HN.out⟩⟩
            case measure => simp [intOf]; omega
          · have hne : (v == 0) = false := by rw [beq_eq_false_iff_ne]; exact hv0
            have HR : Hid (res = v) := Lib.hid (by rw [HV4.out, ← HL.out, HS.out, if_neg hv0])
            clear hv HS HV4
            go_wp2
            go_ret
            exact ⟨by rw [HR.out]; rfl, bthen BW.out.bel hw'⟩
        · have hltz : ¬ (k1 : Int) < (nh : Int) := by omega
          have HR : Hid (res = 0) := Lib.hid (by rw [HV4.out, ← HL.out, List.drop_of_length_le (by omega)]; rfl)
          go_wp2
          go_ret
          exact ⟨by rw [HR.out]; rfl, BW.out.bel⟩
end Go.Proofs.Ytpdjkclacbgneaa
