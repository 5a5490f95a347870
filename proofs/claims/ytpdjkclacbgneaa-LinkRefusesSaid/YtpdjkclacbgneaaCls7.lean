/- class.Check. -/
import Derived.Test.YtpdjkclacbgneaaCls6
import Derived.Deep.RegionHeld3
set_option linter.unusedVariables false
set_option linter.unusedSimpArgs false
namespace Go.Proofs.Ytpdjkclacbgneaa
open Go.RowKit Go.Shelf Go.Proofs.YtpdjkclacbgneaaW.PrintWords Go.Proofs.Ytpdjkclacbgneaa.Pl

/-- One box laid at the world's end, and what has grown behind. -/
structure Bx1 (w W : World) (o0 : Obj) : Prop where
  bel : Below w.heap.size w W
  b0 : W.heap[w.heap.size]? = some o0
theorem Bx1.new (w : World) (o0 : Obj) : Bx1 w (w.alloc o0) o0 := ⟨balloc _ _, blk_new _ _⟩
theorem Bx1.below {w W W' : World} {o0 : Obj} (h : Bx1 w W o0) (hb : Below W.heap.size W W') : Bx1 w W' o0 := ⟨bthen h.bel hb, blk_below h.b0 hb⟩
theorem Bx1.lt {w W : World} {o0 : Obj} (h : Bx1 w W o0) : w.heap.size < W.heap.size := blk_lt h.b0
theorem fields_is {A : Option Addr} {c : Nat} {l : List Pl.Fd} {w : World} (hcap : l.length ≤ c) (hl : fdK.C w A l.length l) {v : Int} (hv : Pl.fields l = v) :
    Calls Try.prog 59 #[.slice A l.length c] w fun e w' => e = .returned (.int .i64 v) ∧ Below w.heap.size w w' := by
  have := fields_any A c l w hcap hl
  rwa [hv] at this
theorem method_is {c : Cl} {ahead : List Mt} {m : Mt} {cc cm : List Value} {E : Option Addr} {ce : Nat} {w : World} (hc : clK.K w c cc) (hm : mtK.K w m cm) (he : mtK.C w E ahead.length ahead) {n : Nat} (hn : ahead.length = n) {v : Int} (hv : Pl.method c ahead m = v) :
    Calls Try.prog 60 #[.agg cc.toArray, .slice E n ce, .agg cm.toArray] w fun e w' => e = .returned (.int .i64 v) ∧ Below w.heap.size w w' := by
  have := method_any c ahead m cc cm E ce w hc hm he
  rwa [hv, hn] at this
theorem run_store_cplx (a : Addr) (re im : Nat) (w : World) : (store a (.complex .f64 re im)).run Try.prog w = stored Try.prog w a (.complex .f64 re im) .plain := run_store Try.prog w a _ .plain rfl
theorem str_zero {s : ByteArray} (h : s.size = 0) : (s.toList == []) = true := by rw [str_nil h, ByteArray.toList_eq]; rfl
theorem C_take {α : Type} {d : Kd α} {w : World} {A : Option Addr} {l : List α} {k : Nat} (h : d.C w A l.length l) (hk : k ≤ l.length) : d.C w A (l.take k).length (l.take k) := by
  have hl : (l.take k).length = k := by rw [List.length_take, Nat.min_eq_left hk]
  refine ⟨rfl, by rw [hl]; exact Nat.le_trans hk h.2.1, fun hp => ?_⟩
  obtain ⟨ad, e, hc⟩ := h.2.2 (by omega)
  refine ⟨ad, e, fun j p hj => hc j p ?_⟩
  rw [List.getElem?_take] at hj
  split at hj
  · exact hj
  · cases hj

set_option maxHeartbeats 1000000 in
set_option maxRecDepth 10000 in
theorem check_any (c : Cl) (cc : List Value) (w : World) (hc : clK.K w c cc) :
    Calls Try.prog 31 #[.agg cc.toArray] w fun e w' => e = .returned (.int .i64 (check c)) ∧ Below w.heap.size w w' := by
  have HC : Aside0 (clK.K w c cc) := ⟨hc⟩
  have hsc := run_store_cplx
  obtain ⟨A0, c0, A1, c1, A2, c2, rfl, ⟨k0, k1, k2⟩, r0, r1, r2⟩ := clK_open hc
  have CP := cells_cn r0
  have RF := Aside0.mk r1
  have RM := Aside0.mk r2
  obtain ⟨cs, CM, KM⟩ := cells_of default r2
  have KM := Aside0.mk KM
  clear hc r0 r1 r2
  have HU : Hid (check c = if isName c.name = false then 50
    else if c.super.size ≠ 0 ∧ isName c.super = false then 50
    else if 128 < c.pool.length then 32
    else if firstOf constant c.pool ≠ 0 then firstOf constant c.pool
    else if Pl.fields c.fields ≠ 0 then Pl.fields c.fields
    else if 12 < c.methods.length then 32
    else firstOn (Pl.method c) [] c.methods) := Lib.hid rfl
  generalize check c = res at *
  obtain ⟨np, hnp⟩ : ∃ np, c.pool.length = np := ⟨_, rfl⟩
  obtain ⟨nm, hnm⟩ : ∃ nm, c.methods.length = nm := ⟨_, rfl⟩
  have HNP := Lib.hid hnp
  have HNM := Lib.hid hnm
  rw [hnp] at CP
  have CM' : Cells w A2 nm 8 cs := by rw [← hnm]; exact CM
  clear CM
  rw [hnp, hnm] at HC
  rw [hnp, hnm] at HU
  rw [hnp, hnm]
  clear hnp hnm
  rcases hq1 : isName c.name with _ | _
  · have HR : Hid (res = 50) := Lib.hid (by rw [HU.out, if_pos hq1])
    have H1 := Lib.hid hq1
    clear HU hq1
    go_enter Try.func31, Try.ntmps31
    go_wp2_with (go_at_call 57; (with_reducible refine (isName_is H1 _).mono ?_); rintro e w' ⟨rfl, rfl⟩)
    go_ret
    exact ⟨by rw [HR.out]; rfl, balloc _ _⟩
  have H1 := Lib.hid hq1
  have HU1 : Hid (res = if c.super.size ≠ 0 ∧ isName c.super = false then 50
    else if 128 < np then 32
    else if firstOf constant c.pool ≠ 0 then firstOf constant c.pool
    else if Pl.fields c.fields ≠ 0 then Pl.fields c.fields
    else if 12 < nm then 32
    else firstOn (Pl.method c) [] c.methods) := Lib.hid (by rw [HU.out, if_neg (by rw [hq1]; decide)])
  clear HU hq1
  rcases hq2 : isName c.super with _ | _
  all_goals have H2 := Lib.hid hq2
  all_goals by_cases hsz : c.super.size = 0
  rotate_left
  · have HR : Hid (res = 50) := Lib.hid (by rw [HU1.out, if_pos ⟨hsz, hq2⟩])
    have e1 := str_some hsz
    clear HU1 hq2
    go_enter Try.func31, Try.ntmps31
    go_wp2_with first
      | (go_at_call 57; (with_reducible refine (isName_is H1 _).mono ?_); rintro e w' ⟨rfl, rfl⟩)
      | (go_at_call 57; (with_reducible refine (isName_is H2 _).mono ?_); rintro e w' ⟨rfl, rfl⟩)
    go_ret
    exact ⟨by rw [HR.out]; rfl, balloc _ _⟩
  all_goals
    have HU2 : Hid (res = if 128 < np then 32
      else if firstOf constant c.pool ≠ 0 then firstOf constant c.pool
      else if Pl.fields c.fields ≠ 0 then Pl.fields c.fields
      else if 12 < nm then 32
      else firstOn (Pl.method c) [] c.methods) := Lib.hid (by rw [HU1.out, if_neg (by first | (rw [hq2]; simp; done) | (simp [hsz]; done))])
    have e1 : (c.super.toList == []) = decide (c.super.size = 0) := by first | (rw [str_some hsz, decide_eq_false hsz]) | (rw [str_zero hsz, decide_eq_true hsz])
    first | rw [decide_eq_false hsz] at e1 | rw [decide_eq_true hsz] at e1
    clear HU1 hq2 hsz
    by_cases q3 : 128 < np
    · have HR : Hid (res = 32) := Lib.hid (by rw [HU2.out, if_pos q3])
      have q3z : (128 : Int) < (np : Int) := by omega
      clear HU2
      go_enter Try.func31, Try.ntmps31
      go_wp2_with first
        | (go_at_call 57; (with_reducible refine (isName_is H1 _).mono ?_); rintro e w' ⟨rfl, rfl⟩)
        | (go_at_call 57; (with_reducible refine (isName_is H2 _).mono ?_); rintro e w' ⟨rfl, rfl⟩)
      go_ret
      exact ⟨by rw [HR.out]; rfl, balloc _ _⟩
    have q3z : ¬ (128 : Int) < (np : Int) := by omega
    have HU3 : Hid (res = if firstOf constant c.pool ≠ 0 then firstOf constant c.pool
      else if Pl.fields c.fields ≠ 0 then Pl.fields c.fields
      else if 12 < nm then 32
      else firstOn (Pl.method c) [] c.methods) := Lib.hid (by rw [HU2.out, if_neg q3])
    clear HU2
    go_enter Try.func31, Try.ntmps31
    go_wp2_with first
      | (go_at_call 57; (with_reducible refine (isName_is H1 _).mono ?_); rintro e w' ⟨rfl, rfl⟩)
      | (go_at_call 57; (with_reducible refine (isName_is H2 _).mono ?_); rintro e w' ⟨rfl, rfl⟩)
    have B := Bx1.new w (.cells #[.string c.name, .string c.super, .slice A0 np c0, .slice A1 c.fields.length c1, .slice A2 nm c2] 72)
    go_loopw [32] (fun s32 wr => ∃ kk : Nat, kk ≤ np ∧ s32 = .int .i64 kk ∧ Aside0 (Bx1 w wr (.cells #[.string c.name, .string c.super, .slice A0 np c0, .slice A1 c.fields.length c1, .slice A2 nm c2] 72)) ∧ Aside0 (firstOf constant (c.pool.drop kk) = firstOf constant c.pool)) (fun s _ => np - (intOf s).toNat)
    case atStart => exact ⟨0, Nat.zero_le _, rfl, ⟨B⟩, ⟨rfl⟩⟩
    case round =>
      clear B
      obtain ⟨kk, hkk, rfl, BW, HL⟩ := hrel
      have lt0 := BW.out.lt
      obtain ⟨x0, x1, x2, x3, x4⟩ := Bx.five ⟨BW.out.b0⟩
      have CW := CP.below BW.out.bel
      by_cases hlt : kk < np
      · have hltz : (kk : Int) < (np : Int) := by omega
        obtain ⟨ad, rfl, had⟩ := CW.2 (by omega)
        clear had
        generalize hx : c.pool.getD kk default = x
        have HX : c.pool[kk]? = some x := by rw [← hx]; exact getD_some _ (by have := HNP.out; omega)
        have l0 := CW.at0 hlt (v := .int .i64 x.kind) (by rw [← hx]; rfl)
        have l1 := CW.at_ hlt (i := 1) (by decide) (v := .int .i64 x.int) (by rw [← hx]; rfl)
        have l2 := CW.at_ hlt (i := 2) (by decide) (v := .complex .f64 x.re x.im) (by rw [← hx]; rfl)
        have l3 := CW.at_ hlt (i := 3) (by decide) (v := .string x.cls) (by rw [← hx]; rfl)
        have l4 := CW.at_ hlt (i := 4) (by decide) (v := .string x.name) (by rw [← hx]; rfl)
        obtain ⟨v, hv⟩ : ∃ v, constant x = v := ⟨_, rfl⟩
        have HS : Hid (firstOf constant (c.pool.drop kk) = if v = 0 then firstOf constant (c.pool.drop (kk + 1)) else v) := Lib.hid (by rw [firstOf_step HX, hv])
        have hv := Lib.hid hv
        clear hx HX
        go_wp2_with fail
        refine (constant_is (c := x) hv _).mono ?_
        rintro e w' ⟨rfl, hb⟩
        have hw' := bthen (balloc _ _) hb
        clear hb
        by_cases hv0 : v = 0
        · subst hv0
          have HN : Hid (firstOf constant (c.pool.drop (kk + 1)) = firstOf constant c.pool) := Lib.hid (by rw [← HL.out, HS.out, if_pos rfl])
          clear hv HS
          go_wp2
          go_roundw
          case rel => exact ⟨kk + 1, by omega, by go_num, ⟨BW.out.below hw'⟩, ⟨HN.out⟩⟩
          case measure => simp [intOf]; omega
        · have hne : (v == 0) = false := by rw [beq_eq_false_iff_ne]; exact hv0
          have HR : Hid (res = v) := Lib.hid (by
            have h1 : firstOf constant c.pool = v := by rw [← HL.out, HS.out, if_neg hv0]
            rw [HU3.out, h1, if_pos hv0])
          clear hv HS HU3
          go_wp2
          go_ret
          exact ⟨by rw [HR.out]; rfl, bthen BW.out.bel hw'⟩
      · have hltz : ¬ (kk : Int) < (np : Int) := by omega
        have HU4 : Hid (res = if Pl.fields c.fields ≠ 0 then Pl.fields c.fields
          else if 12 < nm then 32
          else firstOn (Pl.method c) [] c.methods) := Lib.hid (by
            have h1 : firstOf constant c.pool = 0 := by rw [← HL.out, List.drop_of_length_le (by have := HNP.out; omega)]; rfl
            rw [HU3.out, h1, if_neg (by decide)])
        clear HU3 HL
        go_wp2_with fail
        obtain ⟨v, hv⟩ : ∃ v, Pl.fields c.fields = v := ⟨_, rfl⟩
        refine (fields_is k1 (Kd.C_below RF.out BW.out.bel) hv).mono ?_
        rintro e w1 ⟨rfl, hb⟩
        rw [hv] at HU4
        clear hv CW
        replace BW := Aside0.mk (BW.out.below hb)
        clear hb x0 x1 x2 x3 x4 lt0
        have lt0 := BW.out.lt
        obtain ⟨x0, x1, x2, x3, x4⟩ := Bx.five ⟨BW.out.b0⟩
        by_cases hv0 : v = 0
        rotate_left
        · have hne : (v == 0) = false := by rw [beq_eq_false_iff_ne]; exact hv0
          have HR : Hid (res = v) := Lib.hid (by rw [HU4.out, if_pos hv0])
          clear HU4
          go_wp2
          go_ret
          exact ⟨by rw [HR.out]; rfl, BW.out.bel⟩
        subst hv0
        by_cases q5 : 12 < nm
        · have HR : Hid (res = 32) := Lib.hid (by rw [HU4.out, if_neg (by decide), if_pos q5])
          have q5z : (12 : Int) < (nm : Int) := by omega
          clear HU4
          go_wp2
          go_ret
          exact ⟨by rw [HR.out]; rfl, BW.out.bel⟩
        have q5z : ¬ (12 : Int) < (nm : Int) := by omega
        have HU5 : Hid (firstOn (Pl.method c) [] c.methods = res) := Lib.hid (by rw [HU4.out, if_neg (by decide), if_neg q5])
        clear HU4
        go_wp2
        clear x0 x1 x2 x3 x4 lt0
        go_loopw [55] (fun s55 wr => ∃ k1 : Nat, k1 ≤ nm ∧ s55 = .int .i64 k1 ∧ Aside0 (Bx1 w wr (.cells #[.string c.name, .string c.super, .slice A0 np c0, .slice A1 c.fields.length c1, .slice A2 nm c2] 72)) ∧ Aside0 (firstOn (Pl.method c) (c.methods.take k1) (c.methods.drop k1) = res)) (fun s _ => nm - (intOf s).toNat)
        case atStart => exact ⟨0, Nat.zero_le _, rfl, BW, ⟨HU5.out⟩⟩
        case round =>
          clear BW
          obtain ⟨j, hj, rfl, BW, HL⟩ := hrel
          have lt0 := BW.out.lt
          obtain ⟨x0, x1, x2, x3, x4⟩ := Bx.five ⟨BW.out.b0⟩
          have CW := CM'.below BW.out.bel
          by_cases hlt : j < nm
          · have hltz : (j : Int) < (nm : Int) := by omega
            obtain ⟨ae, rfl, had⟩ := CW.2 (by omega)
            clear had
            have HK := KM.out j (by have := HNM.out; omega)
            generalize hx : c.methods.getD j default = x at HK
            have HX : c.methods[j]? = some x := by rw [← hx]; exact getD_some _ (by have := HNM.out; omega)
            obtain ⟨B0, d0, B1, d1, B2, d2, hcs, _, _, _, _⟩ := mtK_open HK
            rw [hcs] at HK
            have HK := Aside0.mk HK
            have l0 := CW.at0 hlt (v := .string x.name) (by rw [hcs]; rfl)
            have l1 := CW.at_ hlt (i := 1) (by decide) (v := .slice B0 x.params.length d0) (by rw [hcs]; rfl)
            have l2 := CW.at_ hlt (i := 2) (by decide) (v := .int .i64 x.ret.kind) (by rw [hcs]; rfl)
            have l3 := CW.at_ hlt (i := 3) (by decide) (v := .string x.ret.cls) (by rw [hcs]; rfl)
            have l4 := CW.at_ hlt (i := 4) (by decide) (v := .int .i64 x.locals) (by rw [hcs]; rfl)
            have l5 := CW.at_ hlt (i := 5) (by decide) (v := .int .i64 x.stack) (by rw [hcs]; rfl)
            have l6 := CW.at_ hlt (i := 6) (by decide) (v := .slice B1 x.code.length d1) (by rw [hcs]; rfl)
            have l7 := CW.at_ hlt (i := 7) (by decide) (v := .slice B2 x.handlers.length d2) (by rw [hcs]; rfl)
            obtain ⟨v, hv⟩ : ∃ v, Pl.method c (c.methods.take j) x = v := ⟨_, rfl⟩
            have HS : Hid (firstOn (Pl.method c) (c.methods.take j) (c.methods.drop j) = if v = 0 then firstOn (Pl.method c) (c.methods.take (j + 1)) (c.methods.drop (j + 1)) else v) := Lib.hid (by rw [firstOn_step HX, hv])
            have hv := Lib.hid hv
            clear hx HX hcs
            go_wp2_with fail
            obtain ⟨W1, hW1⟩ : ∃ W1, W1 = wr.alloc (.cells #[.string x.name, .slice B0 x.params.length d0, .int .i64 x.ret.kind, .string x.ret.cls, .int .i64 x.locals, .int .i64 x.stack, .slice B1 x.code.length d1, .slice B2 x.handlers.length d2] 66) := ⟨_, rfl⟩
            rw [← hW1]
            have hwr : Below wr.heap.size wr W1 := by rw [hW1]; exact balloc _ _
            have BQ := Aside0.mk (BW.out.below hwr)
            have hbm : W1.heap[wr.heap.size]? = some (.cells #[.string x.name, .slice B0 x.params.length d0, .int .i64 x.ret.kind, .string x.ret.cls, .int .i64 x.locals, .int .i64 x.stack, .slice B1 x.code.length d1, .slice B2 x.handlers.length d2] 66) := by rw [hW1]; exact blk_new _ _
            clear x0 x1 x2 x3 x4 hW1 l0 l1 l2 l3 l4 l5 l6 l7
            obtain ⟨x0, x1, x2, x3, x4⟩ := Bx.five ⟨BQ.out.b0⟩
            obtain ⟨y0, y1, y2, y3, y4, y5, y6, y7⟩ := Bx.eight ⟨hbm⟩
            clear hbm
            have hjc : (j : Int) ≤ (c2 : Int) := by have := HNM.out; omega
            have hjn : j ≤ c2 := by omega
            have hj0 : (0 : Int) ≤ (j : Int) := by omega
            have hjd : decide (j ≤ c2) = true := by simp; omega
            have hjd2 : decide (c2 < j) = false := by simp; omega
            have hjd3 : ¬ c2 < j := by omega
            go_region_held3 (fun w' => w'.cell? ⟨w.heap.size, 0, none⟩ = some (.string c.name) ∧ w'.cell? ⟨w.heap.size, 1, none⟩ = some (.string c.super) ∧ w'.cell? ⟨w.heap.size, 2, none⟩ = some (.slice A0 np c0) ∧ w'.cell? ⟨w.heap.size, 3, none⟩ = some (.slice A1 c.fields.length c1) ∧ w'.cell? ⟨w.heap.size, 4, none⟩ = some (.slice (some ae) nm c2) ∧ w'.cell? ⟨wr.heap.size, 0, none⟩ = some (.string x.name) ∧ w'.cell? ⟨wr.heap.size, 1, none⟩ = some (.slice B0 x.params.length d0) ∧ w'.cell? ⟨wr.heap.size, 2, none⟩ = some (.int .i64 x.ret.kind) ∧ w'.cell? ⟨wr.heap.size, 3, none⟩ = some (.string x.ret.cls) ∧ w'.cell? ⟨wr.heap.size, 4, none⟩ = some (.int .i64 x.locals) ∧ w'.cell? ⟨wr.heap.size, 5, none⟩ = some (.int .i64 x.stack) ∧ w'.cell? ⟨wr.heap.size, 6, none⟩ = some (.slice B1 x.code.length d1) ∧ w'.cell? ⟨wr.heap.size, 7, none⟩ = some (.slice B2 x.handlers.length d2)) (first | exact ⟨x0, x1, x2, x3, x4, y0, y1, y2, y3, y4, y5, y6, y7⟩ | exact ⟨pw_cell_below hb x0, pw_cell_below hb x1, pw_cell_below hb x2, pw_cell_below hb x3, pw_cell_below hb x4, pw_cell_below hb y0, pw_cell_below hb y1, pw_cell_below hb y2, pw_cell_below hb y3, pw_cell_below hb y4, pw_cell_below hb y5, pw_cell_below hb y6, pw_cell_below hb y7⟩ | assumption) (first | (go_at_call 60; (refine (method_is (clK.K_below (below_drew BQ.out.bel) HC.out) (mtK.K_below (below_drew BQ.out.bel) HK.out) (Kd.C_below (C_take RM.out (k := j) (by have := HNM.out; omega)) (below_drew BQ.out.bel)) (by rw [List.length_take]; have := HNM.out; omega) hv.out).mono ?_); rintro e w5 ⟨rfl, hb⟩; replace hb : Below W1.heap.size W1 w5 := (⟨hb.os, hb.tape, hb.output, hb.size, hb.block⟩ : Below W1.heap.size W1 w5)))
            have hw5 := bthen hwr hb
            by_cases hv0 : v = 0
            · subst hv0
              have HN : Hid (firstOn (Pl.method c) (c.methods.take (j + 1)) (c.methods.drop (j + 1)) = res) := Lib.hid (by rw [← HL.out, HS.out, if_pos rfl])
              clear hv HS
              go_wp2
              go_roundw
              case rel => exact ⟨j + 1, by omega, by go_num, ⟨BW.out.below hw5⟩, ⟨HN.out⟩⟩
              case measure => simp [intOf]; omega
            · have hne : (v == 0) = false := by rw [beq_eq_false_iff_ne]; exact hv0
              have HR : Hid (res = v) := Lib.hid (by rw [← HL.out, HS.out, if_neg hv0])
              clear hv HS
              go_wp2
              go_ret
              exact ⟨by rw [HR.out]; rfl, bthen BW.out.bel hw5⟩
          · have hltz : ¬ (j : Int) < (nm : Int) := by omega
            have HR : Hid (res = 0) := Lib.hid (by rw [← HL.out, List.drop_of_length_le (by have := HNM.out; omega)]; rfl)
            go_wp2
            go_ret
            exact ⟨by rw [HR.out]; rfl, BW.out.bel⟩
theorem check_is {c : Cl} {cc : List Value} {w : World} (hc : clK.K w c cc) {v : Int} (hv : check c = v) :
    Calls Try.prog 31 #[.agg cc.toArray] w fun e w' => e = .returned (.int .i64 v) ∧ Below w.heap.size w w' := by
  have := check_any c cc w hc
  rwa [hv] at this
end Go.Proofs.Ytpdjkclacbgneaa
