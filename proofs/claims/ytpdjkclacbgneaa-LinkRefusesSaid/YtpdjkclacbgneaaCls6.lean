/- class.method. -/
import Derived.Test.YtpdjkclacbgneaaCls5
set_option linter.unusedVariables false
set_option linter.unusedSimpArgs false
namespace Go.Proofs.Ytpdjkclacbgneaa
open Go.RowKit Go.Shelf Go.Proofs.YtpdjkclacbgneaaW.PrintWords Go.Proofs.Ytpdjkclacbgneaa.Pl

theorem body_is {c : Cl} {m : Mt} {cc cm : List Value} {w : World} (hc : clK.K w c cc) (hm : mtK.K w m cm) {v : Int} (hv : body c m = v) :
    Calls Try.prog 94 #[.agg cc.toArray, .agg cm.toArray] w fun e w' => e = .returned (.int .i64 v) ∧ Below w.heap.size w w' := by
  have := body_any c m cc cm w hc hm
  rwa [hv] at this
set_option maxHeartbeats 1000000 in
theorem method1_any (t : Ty) (W : World) : Calls Try.prog 90 #[.agg (tyCs t).toArray] W fun e w' => e = .returned (.bool (!isType t false)) ∧ Below W.heap.size W w' := by
  obtain ⟨k, c⟩ := t
  show Calls Try.prog 90 #[.agg #[.int .i64 k, .string c]] W _
  rcases hq : isType ⟨k, c⟩ false with _ | _
  all_goals
    have HQ := Lib.hid hq
    clear hq
    go_enter Try.func90, Try.ntmps90
    go_wp2_with (go_at_call 87; (with_reducible refine (isType_is (t := ⟨k, c⟩) HQ _).mono ?_); rintro e w' ⟨rfl, hb⟩)
    go_ret
    exact ⟨rfl, bthen (balloc _ _) hb⟩
theorem method1_asks (l : List Ty) (n : Nat) (w : World) : Asks Try.prog 90 #[] (fun j => .agg (tyCs (l.getD j default)).toArray) n (fun j => !isType (l.getD j default) false) w :=
  fun j _ W _ => method1_any (l.getD j default) W
set_option maxHeartbeats 1000000 in
theorem method2_any (o : Mt) (cs : List Value) (g : Nat) (nm : ByteArray) (W : World) (ho : ∃ w, mtK.K w o cs) (hg : g < W.heap.size) (hc : W.cell? ⟨g, 0, none⟩ = some (.string nm)) :
    Calls Try.prog 93 #[.agg cs.toArray, .pointer (some ⟨g, 0, none⟩)] W fun e w' => e = .returned (.bool (decide (o.name = nm))) ∧ Below W.heap.size W w' := by
  obtain ⟨w, ho⟩ := ho
  obtain ⟨B0, d0, B1, d1, B2, d2, rfl, _, _, _, _⟩ := mtK_open ho
  clear ho
  generalize o.name = n
  by_cases h : n = nm
  · have e1 := str_eq h
    rw [decide_eq_true h]
    go_enter Try.func93, Try.ntmps93
    go_wp2
    go_ret
    exact ⟨rfl, balloc _ _⟩
  · have e1 := str_ne h
    rw [decide_eq_false h]
    go_enter Try.func93, Try.ntmps93
    go_wp2
    go_ret
    exact ⟨rfl, balloc _ _⟩
theorem method2_asks (l : List Mt) (n : Nat) (cs : Nat → List Value) (g : Nat) (nm : ByteArray) (W : World) (hk : ∀ j, j < n → ∃ w, mtK.K w (l.getD j default) (cs j)) (hg : g < W.heap.size) (hc : W.cell? ⟨g, 0, none⟩ = some (.string nm)) :
    Asks Try.prog 93 #[.pointer (some ⟨g, 0, none⟩)] (fun j => .agg (cs j).toArray) n (fun j => decide ((l.getD j default).name = nm)) W :=
  fun j hj W' hb => method2_any (l.getD j default) (cs j) g nm W' (hk j hj) (Nat.lt_of_lt_of_le hg hb.size) ((hb.cell (p := ⟨g, 0, none⟩) hg).trans hc)

set_option maxHeartbeats 1000000 in
set_option maxRecDepth 10000 in
theorem method_any (c : Cl) (ahead : List Mt) (m : Mt) (cc cm : List Value) (E : Option Addr) (ce : Nat) (w : World) (hc : clK.K w c cc) (hm : mtK.K w m cm) (he : mtK.C w E ahead.length ahead) :
    Calls Try.prog 60 #[.agg cc.toArray, .slice E ahead.length ce, .agg cm.toArray] w fun e w' => e = .returned (.int .i64 (Pl.method c ahead m)) ∧ Below w.heap.size w w' := by
  have HC : Aside0 (clK.K w c cc) := ⟨hc⟩
  have HM : Aside0 (mtK.K w m cm) := ⟨hm⟩
  obtain ⟨A0, c0, A1, c1, A2, c2, rfl, ⟨k0, k1, k2⟩, r0, r1, r2⟩ := clK_open hc
  obtain ⟨B0, d0, B1, d1, B2, d2, rfl, ⟨j0, j1, j2⟩, s0, s1, s2⟩ := mtK_open hm
  have CT := cells_ty s0
  obtain ⟨cs, CE, KE⟩ := cells_of default he
  clear hc hm r0 r1 r2 s0 s1 s2 he
  have HU : Hid (Pl.method c ahead m = if isName m.name = false then 50
    else if 6 < m.params.length then 32
    else if m.params.any (fun t => !isType t false) = true ∨ isType m.ret true = false then 50
    else if ahead.any (fun o => decide (o.name = m.name)) then 53
    else if m.locals < 1 + m.params.length ∨ 32 < m.locals then 32
    else if m.stack < 0 ∨ 64 < m.stack then 32
    else body c m) := Lib.hid rfl
  generalize Pl.method c ahead m = res at *
  have H2 : Hid (anyB (fun j => !isType (m.params.getD j default) false) m.params.length = m.params.any (fun t => !isType t false)) := Lib.hid (anyB_list (fun t => !isType t false) default m.params)
  have H4 : Hid (anyB (fun j => decide ((ahead.getD j default).name = m.name)) ahead.length = ahead.any (fun o => decide (o.name = m.name))) := Lib.hid (anyB_list (fun o : Mt => decide (o.name = m.name)) default ahead)
  generalize hn : m.params.length = n at *
  generalize hne : ahead.length = ne at *
  clear hn hne
  have eg1 := enters_of Try.func90 (by kernel_rfl) rfl
  have eg2 := enters_of Try.func93 (by kernel_rfl) rfl
  have EG1 := Aside0.mk eg1
  have EG2 := Aside0.mk eg2
  clear eg1 eg2
  rcases hq1 : isName m.name with _ | _
  · have HR : Hid (res = 50) := Lib.hid (by rw [HU.out, if_pos hq1])
    have H1 := Lib.hid hq1
    clear HU hq1
    go_enter Try.func60, Try.ntmps60
    go_wp2_with (go_at_call 57; (with_reducible refine (isName_is H1 _).mono ?_); rintro e w' ⟨rfl, rfl⟩)
    go_ret
    exact ⟨by rw [HR.out]; rfl, bthen (balloc _ _) (balloc _ _)⟩
  have H1 := Lib.hid hq1
  by_cases q2 : 6 < n
  · have HR : Hid (res = 32) := Lib.hid (by rw [HU.out, if_neg (by rw [hq1]; decide), if_pos q2])
    have q2z : (6 : Int) < (n : Int) := by omega
    clear HU hq1
    go_enter Try.func60, Try.ntmps60
    go_wp2_with (go_at_call 57; (with_reducible refine (isName_is H1 _).mono ?_); rintro e w' ⟨rfl, rfl⟩)
    go_ret
    exact ⟨by rw [HR.out]; rfl, bthen (balloc _ _) (balloc _ _)⟩
  have q2z : ¬ (6 : Int) < (n : Int) := by omega
  have HV : Hid (res = if m.params.any (fun t => !isType t false) = true ∨ isType m.ret true = false then 50
    else if ahead.any (fun o => decide (o.name = m.name)) then 53
    else if m.locals < 1 + n ∨ 32 < m.locals then 32
    else if m.stack < 0 ∨ 64 < m.stack then 32
    else body c m) := Lib.hid (by rw [HU.out, if_neg (by rw [hq1]; decide), if_neg q2])
  clear HU hq1
  go_enter Try.func60, Try.ntmps60
  go_wp2_with first
    | (go_at_call 57; (with_reducible refine (isName_is H1 _).mono ?_); rintro e w' ⟨rfl, rfl⟩)
    | fail
  have B := Bx2.new w (.cells #[.string c.name, .string c.super, .slice A0 c.pool.length c0, .slice A1 c.fields.length c1, .slice A2 c.methods.length c2] 72) (.cells #[.string m.name, .slice B0 n d0, .int .i64 m.ret.kind, .string m.ret.cls, .int .i64 m.locals, .int .i64 m.stack, .slice B1 m.code.length d1, .slice B2 m.handlers.length d2] 66)
  refine (contains_Ty _ _ EG1.out B0 n d0 _ _ _ (CT.below B.bel) (method1_asks m.params n _)).mono ?_
  rintro e w1 ⟨rfl, hb⟩
  replace B := Aside0.mk (B.below hb)
  clear hb
  rw [H2.out]
  obtain ⟨lt0, lt1⟩ := B.out.lt
  obtain ⟨x0, x1, x2, x3, x4⟩ := Bx.five ⟨B.out.b0⟩
  obtain ⟨y0, y1, y2, y3, y4, y5, y6, y7⟩ := Bx.eight ⟨B.out.b1⟩
  rcases hq3 : m.params.any (fun t => !isType t false) with _ | _
  rotate_left
  · have HR : Hid (res = 50) := Lib.hid (by rw [HV.out, if_pos (.inl hq3)])
    clear HV hq3
    go_wp2
    go_ret
    exact ⟨by rw [HR.out]; rfl, B.out.bel⟩
  rcases hq4 : isType m.ret true with _ | _
  · have HR : Hid (res = 50) := Lib.hid (by rw [HV.out, if_pos (.inr hq4)])
    have H5 := Lib.hid hq4
    clear HV hq3 hq4
    go_wp2_with (go_at_call 87; (with_reducible refine (isType_is (t := m.ret) H5 _).mono ?_); rintro e w' ⟨rfl, hb⟩)
    go_ret
    exact ⟨by rw [HR.out]; rfl, bthen B.out.bel hb⟩
  have HW : Hid (res = if ahead.any (fun o => decide (o.name = m.name)) then 53
    else if m.locals < 1 + n ∨ 32 < m.locals then 32
    else if m.stack < 0 ∨ 64 < m.stack then 32
    else body c m) := Lib.hid (by rw [HV.out, if_neg (by rw [hq3, hq4]; decide)])
  have H5 := Lib.hid hq4
  clear HV hq3 hq4
  go_wp2_with fail
  refine (isType_is (t := m.ret) H5 _).mono ?_
  rintro e w2 ⟨rfl, hb⟩
  replace B := Aside0.mk (B.out.below hb)
  clear hb x0 x1 x2 x3 x4 y0 y1 y2 y3 y4 y5 y6 y7 lt0 lt1
  obtain ⟨lt0, lt1⟩ := B.out.lt
  obtain ⟨x0, x1, x2, x3, x4⟩ := Bx.five ⟨B.out.b0⟩
  obtain ⟨y0, y1, y2, y3, y4, y5, y6, y7⟩ := Bx.eight ⟨B.out.b1⟩
  go_wp2_with fail
  refine (contains_Mt _ _ EG2.out E ne ce _ _ _ (CE.below B.out.bel) (method2_asks ahead ne cs (w.heap.size + 1) m.name _ (fun j hj => ⟨w, KE j hj⟩) lt1 y0)).mono ?_
  rintro e w3 ⟨rfl, hb⟩
  replace B := Aside0.mk (B.out.below hb)
  clear hb x0 x1 x2 x3 x4 y0 y1 y2 y3 y4 y5 y6 y7 lt0 lt1
  rw [H4.out]
  obtain ⟨lt0, lt1⟩ := B.out.lt
  obtain ⟨x0, x1, x2, x3, x4⟩ := Bx.five ⟨B.out.b0⟩
  obtain ⟨y0, y1, y2, y3, y4, y5, y6, y7⟩ := Bx.eight ⟨B.out.b1⟩
  rcases hq5 : ahead.any (fun o => decide (o.name = m.name)) with _ | _
  rotate_left
  · have HR : Hid (res = 53) := Lib.hid (by rw [HW.out, if_pos hq5])
    clear HW hq5
    go_wp2
    go_ret
    exact ⟨by rw [HR.out]; rfl, B.out.bel⟩
  have HX : Hid (res = if m.locals < 1 + n ∨ 32 < m.locals then 32
    else if m.stack < 0 ∨ 64 < m.stack then 32
    else body c m) := Lib.hid (by rw [HW.out, if_neg (by rw [hq5]; decide)])
  clear HW hq5
  by_cases p1 : m.locals < 1 + n
  · have HR : Hid (res = 32) := Lib.hid (by rw [HX.out, if_pos (by omega)])
    clear HX
    go_wp2
    go_ret
    exact ⟨by rw [HR.out]; rfl, B.out.bel⟩
  by_cases p2 : 32 < m.locals
  · have HR : Hid (res = 32) := Lib.hid (by rw [HX.out, if_pos (by omega)])
    clear HX
    go_wp2
    go_ret
    exact ⟨by rw [HR.out]; rfl, B.out.bel⟩
  by_cases p3 : m.stack < 0
  · have HR : Hid (res = 32) := Lib.hid (by rw [HX.out, if_neg (by omega), if_pos (by omega)])
    clear HX
    go_wp2
    go_ret
    exact ⟨by rw [HR.out]; rfl, B.out.bel⟩
  by_cases p4 : 64 < m.stack
  · have HR : Hid (res = 32) := Lib.hid (by rw [HX.out, if_neg (by omega), if_pos (by omega)])
    clear HX
    go_wp2
    go_ret
    exact ⟨by rw [HR.out]; rfl, B.out.bel⟩
  obtain ⟨v, hv⟩ : ∃ v, body c m = v := ⟨_, rfl⟩
  have HR : Hid (res = v) := Lib.hid (by rw [HX.out, if_neg (by omega), if_neg (by omega), hv])
  have Hv := Lib.hid hv
  clear HX hv
  go_wp2_with fail
  refine (body_is (clK.K_below B.out.bel HC.out) (mtK.K_below B.out.bel HM.out) Hv.out).mono ?_
  rintro e w4 ⟨rfl, hb⟩
  go_wp2
  go_ret
  exact ⟨by rw [HR.out]; rfl, bthen B.out.bel hb⟩
end Go.Proofs.Ytpdjkclacbgneaa
