/- (*link.Program).members. -/
import Derived.Test.YtpdjkclacbgneaaLnk2
import Derived.Deep.RegionHeld3
import Derived.StillTailTactics
set_option linter.unusedVariables false
set_option linter.unusedSimpArgs false
namespace Go.Proofs.Ytpdjkclacbgneaa
open Go.RowKit Go.Shelf Go.Proofs.YtpdjkclacbgneaaW.PrintWords Go.Proofs.Ytpdjkclacbgneaa.Pl

set_option maxHeartbeats 400000 in
theorem members1_any (pb : Nat) (p : Pg) (n nm : Nm) (gp gf : Nat) (W : World) (H : ProgIs W pb p) (hp : W.cell? ⟨gp, 0, none⟩ = some (.pointer (some ⟨pb, 0, none⟩))) (hf : W.cell? ⟨gf, 0, none⟩ = some (.string nm)) :
    Calls Try.prog 64 #[.string n, .pointer (some ⟨gp, 0, none⟩), .pointer (some ⟨gf, 0, none⟩)] W fun e w' => e = .returned (.bool (hasField p n nm)) ∧ Below W.heap.size W w' := by
  have HH := Aside0.mk H
  clear H
  go_enter Try.func64, Try.ntmps64
  go_wp2_with fail
  refine (hasF_any pb p n nm _ HH.out).mono ?_
  rintro e w' ⟨rfl, hb⟩
  go_wp2
  go_ret
  exact ⟨rfl, hb⟩
theorem members1_asks (pb : Nat) (p : Pg) (l : List Nm) (nm : Nm) (gp gf : Nat) (W : World) (H : ProgIs W pb p) (hp : W.cell? ⟨gp, 0, none⟩ = some (.pointer (some ⟨pb, 0, none⟩))) (hf : W.cell? ⟨gf, 0, none⟩ = some (.string nm)) (k : Nat) :
    Asks Try.prog 64 #[.pointer (some ⟨gp, 0, none⟩), .pointer (some ⟨gf, 0, none⟩)] (fun j => ([Value.string (l.getD j ByteArray.empty)]).headD undef) k (fun j => hasField p (l.getD j ByteArray.empty) nm) W :=
  fun j _ W' hb => members1_any pb p (l.getD j ByteArray.empty) nm gp gf W' (H.below hb) (pw_cell_below hb hp) (pw_cell_below hb hf)
theorem str_open {w : World} {x : Nm} {cs : List Value} (h : Kd.string.K w x cs) : cs = [.string x] := h
theorem cells_str {w : World} {A : Option Addr} {l : List Nm} (h : Kd.string.C w A l.length l) : Cells w A l.length 1 (fun j => [.string (l.getD j ByteArray.empty)]) := cells_is ByteArray.empty (fun _ _ => str_open) h
theorem C_tail {w : World} {ad : Addr} {n : Nat} {a : Nm} {l : List Nm} (h : Kd.string.C w (some ad) (n + 1) (a :: l)) : Kd.string.C w (some (ad.add 1)) n l := by
  have hl : l.length = n := by have := h.1; simpa using this
  refine ⟨hl, by have := h.2.1; omega, fun hp => ?_⟩
  obtain ⟨ad', e, hc⟩ := h.2.2 (by omega)
  cases e
  refine ⟨_, rfl, fun j p hj => ?_⟩
  obtain ⟨c, h1, h2, h3⟩ := hc (j + 1) p (by simpa using hj)
  refine ⟨c, h1, h2, fun i u hu => ?_⟩
  have h4 := h3 i u hu
  have hs : Kd.string.sz = 1 := rfl
  rw [add_add]
  rw [hs] at h4 ⊢
  rw [show 1 + (j * 1 + i) = (j + 1) * 1 + i by omega]
  exact h4
theorem casB (W1 w5 : World) (o : Obj) (h : Below (W1.drew.alloc o).heap.size (W1.drew.alloc o) w5 ∨ Below (W1.alloc o).drew.heap.size (W1.alloc o).drew w5) : w5.heap[W1.heap.size]? = some o := by
  rcases h with h | h
  · exact blk_below (blk_new W1.drew o) h
  · exact blk_below (blk_drew (blk_new W1 o)) h
theorem cell_set {W : World} {g j : Nat} {v : Value} {a : Addr} (ha : a.block ≠ g) : (W.setCell ⟨g, j, none⟩ v).cell? a = W.cell? a := by
  unfold World.cell?
  rw [show (W.setCell ⟨g, j, none⟩ v).heap[a.block]? = W.heap[a.block]? from Below.heap_setCell W ⟨g, j, none⟩ v a.block ha]
theorem chain_cell {W : World} {g : Nat} {v0 v1 v2 v3 v4 v5 v6 v7 : Value} {a : Addr} {u : Value} (ha : a.block ≠ g) (h : W.cell? a = some u) :
    ((((((((W.setCell ⟨g, 0, none⟩ v0).setCell ⟨g, 1, none⟩ v1).setCell ⟨g, 2, none⟩ v2).setCell ⟨g, 3, none⟩ v3).setCell ⟨g, 4, none⟩ v4).setCell ⟨g, 5, none⟩ v5).setCell ⟨g, 6, none⟩ v6).setCell ⟨g, 7, none⟩ v7).cell? a = some u := by
  rw [cell_set ha, cell_set ha, cell_set ha, cell_set ha, cell_set ha, cell_set ha, cell_set ha, cell_set ha, h]
theorem all_step {α : Type} (f : α → Bool) {l : List α} {k : Nat} {x : α} (hx : l[k]? = some x) : (l.take (k + 1)).all f = ((l.take k).all f && f x) := by
  rw [List.take_add_one, hx, List.all_append]
  simp

set_option maxHeartbeats 400000 in
set_option maxRecDepth 10000 in
theorem members_any (pb : Nat) (p : Pg) (c : Cl) (cc : List Value) (w : World) (H : ProgIs w pb p) (hc : clK.K w c cc) (hcn : Pl.has p.h c.name = true) (hno : ¬ c.name = nObject) :
    Calls Try.prog 33 #[.pointer (some ⟨pb, 0, none⟩), .agg cc.toArray] w fun e w' => e = .returned (.int .i64 (members p c)) ∧ Below w.heap.size w w' := by
  have HH := Aside0.mk H
  obtain ⟨A0, c0, A1, c1, A2, c2, rfl, ⟨k0, k1, k2⟩, r0, r1, r2⟩ := clK_open hc
  have CF := cells_fd r1
  obtain ⟨mc, CM, KM⟩ := cells_of default r2
  have CM : Cells w A2 c.methods.length 8 mc := CM
  have KM := Aside0.mk KM
  clear hc r0 r1 r2
  have HU : Hid (members p c = if (c.fields.all (fun f => Pl.there p f.ty) && c.methods.all (fun m => Pl.there p m.ret && m.params.all (Pl.there p))) = false then 70
    else
      if c.fields.any (fun f => (ancestors p.h c.name).tail.any fun n => hasField p n f.name) = true then 53
      else if c.methods.any (fun m => (meth p ((ancestors p.h c.name).tail.headD nil) m.name).2.2 && !sameM m (meth p ((ancestors p.h c.name).tail.headD nil) m.name).2.1) = true then 73
      else 0) := Lib.hid rfl
  generalize members p c = res at *
  obtain ⟨nf, hnf⟩ : ∃ nf, c.fields.length = nf := ⟨_, rfl⟩
  obtain ⟨nm, hnm⟩ : ∃ nm, c.methods.length = nm := ⟨_, rfl⟩
  rw [hnf] at CF
  rw [hnm] at CM KM
  rw [hnf, hnm]
  have HNF := Lib.hid hnf
  have HNM := Lib.hid hnm
  have hm1 := CF.1
  have hm2 := CM.1
  clear hnf hnm k0 k1 k2
  go_enter Try.func33, Try.ntmps33
  go_wp2
  have B := Bx2.new w (.cells #[.pointer (some ⟨pb, 0, none⟩)] 41) (.cells #[.string c.name, .string c.super, .slice A0 c.pool.length c0, .slice A1 nf c1, .slice A2 nm c2] 72)
  go_loopw [5, 23] (fun s5 s23 wr => ∃ (kk : Nat) (q : Bool), kk ≤ nf ∧ s23 = .int .i64 kk ∧ s5 = .bool q ∧ Aside0 (Bx2 w wr (.cells #[.pointer (some ⟨pb, 0, none⟩)] 41) (.cells #[.string c.name, .string c.super, .slice A0 c.pool.length c0, .slice A1 nf c1, .slice A2 nm c2] 72)) ∧ Aside0 ((c.fields.take kk).all (fun f => Pl.there p f.ty) = q)) (fun _ s _ => nf - (intOf s).toNat)
  case atStart => exact ⟨0, true, Nat.zero_le _, rfl, rfl, ⟨B⟩, ⟨by simp⟩⟩
  case round =>
    clear B
    obtain ⟨kk, q, hkk, rfl, rfl, BW, HA⟩ := hrel
    obtain ⟨lt0, lt1⟩ := BW.out.lt
    have x0 : wr.cell? ⟨w.heap.size, 0, none⟩ = some (.pointer (some ⟨pb, 0, none⟩)) := Bx.cell ⟨BW.out.b0⟩ (j := 0) rfl
    obtain ⟨y0, y1, y2, y3, y4⟩ := Bx.five ⟨BW.out.b1⟩
    have HP := Aside0.mk (HH.out.below BW.out.bel)
    by_cases hlt : kk < nf
    · have hltz : (kk : Int) < (nf : Int) := by omega
      have CW := CF.below BW.out.bel
      obtain ⟨ad, rfl, had⟩ := CW.2 (by omega)
      clear had
      generalize hx : c.fields.getD kk default = x
      have HX : Aside0 (c.fields[kk]? = some x) := ⟨by rw [← hx]; exact getD_some _ (by have := HNF.out; omega)⟩
      have l0 := CW.at0 hlt (v := .string x.name) (by rw [← hx]; rfl)
      have l1 := CW.at_ hlt (i := 1) (by decide) (v := .int .i64 x.ty.kind) (by rw [← hx]; rfl)
      have l2 := CW.at_ hlt (i := 2) (by decide) (v := .string x.ty.cls) (by rw [← hx]; rfl)
      have l3 := CW.at_ hlt (i := 3) (by decide) (v := .bool x.vol) (by rw [← hx]; rfl)
      clear hx
      cases q with
      | false =>
        have HA2 : Aside0 ((c.fields.take (kk + 1)).all (fun f => Pl.there p f.ty) = false) := ⟨by rw [all_step _ HX.out, HA.out]; rfl⟩
        go_wp2
        go_roundw
        case rel => exact ⟨kk + 1, false, by omega, by go_num, rfl, ⟨BW.out.below (balloc _ _)⟩, HA2⟩
        case measure => simp [intOf]; omega
      | true =>
        obtain ⟨q2, hq2⟩ : ∃ q2, Pl.there p x.ty = q2 := ⟨_, rfl⟩
        have HA2 : Aside0 ((c.fields.take (kk + 1)).all (fun f => Pl.there p f.ty) = q2) := ⟨by rw [all_step _ HX.out, HA.out, hq2]; rfl⟩
        have HQ := Aside0.mk hq2
        clear hq2
        go_wp2_with fail
        refine (there_is (t := x.ty) (HP.out.below (balloc _ _)) HQ.out).mono ?_
        rintro e w' ⟨rfl, hb⟩
        go_wp2
        go_roundw
        case rel => exact ⟨kk + 1, q2, by omega, by go_num, rfl, ⟨BW.out.below (bthen (balloc _ _) hb)⟩, HA2⟩
        case measure => simp [intOf]; omega
    · have hltz : ¬ (kk : Int) < (nf : Int) := by omega
      have HA1 : Aside0 (c.fields.all (fun f => Pl.there p f.ty) = q) := ⟨by
        have := HA.out
        rwa [List.take_of_length_le (by have := HNF.out; omega)] at this⟩
      clear HA hlt hkk
      go_wp2
      clear hltz x0 y0 y1 y2 y3 y4 lt0 lt1 HP
      go_loopw [5, 38] (fun s5 s38 wr => ∃ (j : Nat) (r : Bool), j ≤ nm ∧ s38 = .int .i64 j ∧ s5 = .bool r ∧ Aside0 (Bx2 w wr (.cells #[.pointer (some ⟨pb, 0, none⟩)] 41) (.cells #[.string c.name, .string c.super, .slice A0 c.pool.length c0, .slice A1 nf c1, .slice A2 nm c2] 72)) ∧ Aside0 ((q && (c.methods.take j).all (fun m => Pl.there p m.ret && m.params.all (Pl.there p))) = r)) (fun _ s _ => nm - (intOf s).toNat)
      case atStart => exact ⟨0, q, Nat.zero_le _, rfl, rfl, BW, ⟨by simp⟩⟩
      case round =>
        clear BW
        obtain ⟨j, r, hj, rfl, rfl, BW, HA⟩ := hrel
        obtain ⟨lt0, lt1⟩ := BW.out.lt
        have x0 : wr.cell? ⟨w.heap.size, 0, none⟩ = some (.pointer (some ⟨pb, 0, none⟩)) := Bx.cell ⟨BW.out.b0⟩ (j := 0) rfl
        obtain ⟨y0, y1, y2, y3, y4⟩ := Bx.five ⟨BW.out.b1⟩
        have HP := Aside0.mk (HH.out.below BW.out.bel)
        by_cases hlt : j < nm
        · have hltz : (j : Int) < (nm : Int) := by omega
          have CW := CM.below BW.out.bel
          obtain ⟨ae, rfl, had⟩ := CW.2 (by omega)
          clear had
          have HK := KM.out j (by have := HNM.out; omega)
          generalize hx : c.methods.getD j default = y at HK
          have HX : Aside0 (c.methods[j]? = some y) := ⟨by rw [← hx]; exact getD_some _ (by have := HNM.out; omega)⟩
          obtain ⟨B0, d0, B1, d1, B2, d2, hcs, _, t0, _, _⟩ := mtK_open HK
          have CT := cells_ty t0
          rw [hcs] at HK
          have HK := Aside0.mk HK
          have l0 := CW.at0 hlt (v := .string y.name) (by rw [hcs]; rfl)
          have l1 := CW.at_ hlt (i := 1) (by decide) (v := .slice B0 y.params.length d0) (by rw [hcs]; rfl)
          have l2 := CW.at_ hlt (i := 2) (by decide) (v := .int .i64 y.ret.kind) (by rw [hcs]; rfl)
          have l3 := CW.at_ hlt (i := 3) (by decide) (v := .string y.ret.cls) (by rw [hcs]; rfl)
          have l4 := CW.at_ hlt (i := 4) (by decide) (v := .int .i64 y.locals) (by rw [hcs]; rfl)
          have l5 := CW.at_ hlt (i := 5) (by decide) (v := .int .i64 y.stack) (by rw [hcs]; rfl)
          have l6 := CW.at_ hlt (i := 6) (by decide) (v := .slice B1 y.code.length d1) (by rw [hcs]; rfl)
          have l7 := CW.at_ hlt (i := 7) (by decide) (v := .slice B2 y.handlers.length d2) (by rw [hcs]; rfl)
          have hpm := CT.1
          obtain ⟨np, hnp⟩ : ∃ np, y.params.length = np := ⟨_, rfl⟩
          rw [hnp] at CT l1 hpm
          have HNP := Lib.hid hnp
          clear hx hcs t0 hnp
          cases r with
          | false =>
            have HQ1 : Aside0 ((false && Pl.there p y.ret) = false) := ⟨rfl⟩
            go_wp2
            have BV := Aside0.mk (BW.out.below (balloc _ (.cells #[.string y.name, .slice B0 np d0, .int .i64 y.ret.kind, .string y.ret.cls, .int .i64 y.locals, .int .i64 y.stack, .slice B1 y.code.length d1, .slice B2 y.handlers.length d2] 66)))
            clear x0 y0 y1 y2 y3 y4 l0 l1 l2 l3 l4 l5 l6 l7 HP CW
            go_loopw [5, 52] (fun s5 s52 wr => ∃ (i : Nat) (t : Bool), i ≤ np ∧ s52 = .int .i64 i ∧ s5 = .bool t ∧ Aside0 (Bx2 w wr (.cells #[.pointer (some ⟨pb, 0, none⟩)] 41) (.cells #[.string c.name, .string c.super, .slice A0 c.pool.length c0, .slice A1 nf c1, .slice (some ae) nm c2] 72)) ∧ Aside0 ((false && (y.params.take i).all (Pl.there p)) = t)) (fun _ s _ => np - (intOf s).toNat)
            case atStart => exact ⟨0, false, Nat.zero_le _, rfl, rfl, BV, ⟨by simp⟩⟩
            case round =>
              clear BV
              obtain ⟨i, t, hi, rfl, rfl, BV, HT⟩ := hrel
              obtain ⟨lt0, lt1⟩ := BV.out.lt
              have x0 : wr.cell? ⟨w.heap.size, 0, none⟩ = some (.pointer (some ⟨pb, 0, none⟩)) := Bx.cell ⟨BV.out.b0⟩ (j := 0) rfl
              have HP := Aside0.mk (HH.out.below BV.out.bel)
              by_cases hlt3 : i < np
              · have hltz3 : (i : Int) < (np : Int) := by omega
                have DW := CT.below BV.out.bel
                obtain ⟨au, rfl, had⟩ := DW.2 (by omega)
                clear had
                generalize hx : y.params.getD i default = z
                have HZ : Aside0 (y.params[i]? = some z) := ⟨by rw [← hx]; exact getD_some _ (by have := HNP.out; omega)⟩
                have n0 := DW.at0 hlt3 (v := .int .i64 z.kind) (by rw [← hx]; rfl)
                have n1 := DW.at_ hlt3 (i := 1) (by decide) (v := .string z.cls) (by rw [← hx]; rfl)
                clear hx
                cases t with
                | false =>
                  have HT2 : Aside0 ((false && (y.params.take (i + 1)).all (Pl.there p)) = false) := ⟨by rw [all_step _ HZ.out, ← Bool.and_assoc, HT.out]; rfl⟩
                  go_wp2
                  go_roundw
                  case rel => exact ⟨i + 1, false, by omega, by go_num, rfl, ⟨BV.out.below (balloc _ _)⟩, HT2⟩
                  case measure => simp [intOf]; omega
                | true =>
                  obtain ⟨q3, hq3⟩ : ∃ q3, Pl.there p z = q3 := ⟨_, rfl⟩
                  have HT2 : Aside0 ((false && (y.params.take (i + 1)).all (Pl.there p)) = q3) := ⟨by rw [all_step _ HZ.out, ← Bool.and_assoc, HT.out, hq3]; rfl⟩
                  have HQ := Aside0.mk hq3
                  clear hq3
                  go_wp2_with fail
                  refine (there_is (t := z) (HP.out.below (balloc _ _)) HQ.out).mono ?_
                  rintro e w' ⟨rfl, hb⟩
                  go_wp2
                  go_roundw
                  case rel => exact ⟨i + 1, q3, by omega, by go_num, rfl, ⟨BV.out.below (bthen (balloc _ _) hb)⟩, HT2⟩
                  case measure => simp [intOf]; omega
              · have hltz3 : ¬ (i : Int) < (np : Int) := by omega
                have HA2 : Aside0 ((q && (c.methods.take (j + 1)).all (fun m => Pl.there p m.ret && m.params.all (Pl.there p))) = t) := ⟨by
                  have h1 := HT.out
                  rw [List.take_of_length_le (by have := HNP.out; omega)] at h1
                  rw [all_step _ HX.out, ← Bool.and_assoc, HA.out, ← h1, ← HQ1.out]
                  cases Pl.there p y.ret <;> simp⟩
                go_wp2
                go_roundw
                case rel => exact ⟨j + 1, t, by omega, by go_num, rfl, BV, HA2⟩
                case measure => simp [intOf]; omega
          | true =>
            obtain ⟨q2, hq2⟩ : ∃ q2, Pl.there p y.ret = q2 := ⟨_, rfl⟩
            have HQ1 : Aside0 ((true && Pl.there p y.ret) = q2) := ⟨by rw [hq2]; rfl⟩
            have HQ2 := Aside0.mk hq2
            clear hq2
            go_wp2_with fail
            refine (there_is (t := y.ret) (HP.out.below (balloc _ (.cells #[.string y.name, .slice B0 np d0, .int .i64 y.ret.kind, .string y.ret.cls, .int .i64 y.locals, .int .i64 y.stack, .slice B1 y.code.length d1, .slice B2 y.handlers.length d2] 66))) HQ2.out).mono ?_
            rintro e w1 ⟨rfl, hb⟩
            have BV := Aside0.mk (BW.out.below (bthen (balloc _ _) hb))
            have e1 : w1.cell? ⟨wr.heap.size, 1, none⟩ = some (.slice B0 np d0) := Bx.cell ⟨blk_below (blk_new wr (.cells #[.string y.name, .slice B0 np d0, .int .i64 y.ret.kind, .string y.ret.cls, .int .i64 y.locals, .int .i64 y.stack, .slice B1 y.code.length d1, .slice B2 y.handlers.length d2] 66)) hb⟩ (j := 1) rfl
            go_wp2
            clear x0 y0 y1 y2 y3 y4 l0 l1 l2 l3 l4 l5 l6 l7 HP CW e1 hb
            go_loopw [5, 52] (fun s5 s52 wr => ∃ (i : Nat) (t : Bool), i ≤ np ∧ s52 = .int .i64 i ∧ s5 = .bool t ∧ Aside0 (Bx2 w wr (.cells #[.pointer (some ⟨pb, 0, none⟩)] 41) (.cells #[.string c.name, .string c.super, .slice A0 c.pool.length c0, .slice A1 nf c1, .slice (some ae) nm c2] 72)) ∧ Aside0 ((q2 && (y.params.take i).all (Pl.there p)) = t)) (fun _ s _ => np - (intOf s).toNat)
            case atStart => exact ⟨0, q2, Nat.zero_le _, rfl, rfl, BV, ⟨by simp⟩⟩
            case round =>
              clear BV
              obtain ⟨i, t, hi, rfl, rfl, BV, HT⟩ := hrel
              obtain ⟨lt0, lt1⟩ := BV.out.lt
              have x0 : wr.cell? ⟨w.heap.size, 0, none⟩ = some (.pointer (some ⟨pb, 0, none⟩)) := Bx.cell ⟨BV.out.b0⟩ (j := 0) rfl
              have HP := Aside0.mk (HH.out.below BV.out.bel)
              by_cases hlt3 : i < np
              · have hltz3 : (i : Int) < (np : Int) := by omega
                have DW := CT.below BV.out.bel
                obtain ⟨au, rfl, had⟩ := DW.2 (by omega)
                clear had
                generalize hx : y.params.getD i default = z
                have HZ : Aside0 (y.params[i]? = some z) := ⟨by rw [← hx]; exact getD_some _ (by have := HNP.out; omega)⟩
                have n0 := DW.at0 hlt3 (v := .int .i64 z.kind) (by rw [← hx]; rfl)
                have n1 := DW.at_ hlt3 (i := 1) (by decide) (v := .string z.cls) (by rw [← hx]; rfl)
                clear hx
                cases t with
                | false =>
                  have HT2 : Aside0 ((q2 && (y.params.take (i + 1)).all (Pl.there p)) = false) := ⟨by rw [all_step _ HZ.out, ← Bool.and_assoc, HT.out]; rfl⟩
                  go_wp2
                  go_roundw
                  case rel => exact ⟨i + 1, false, by omega, by go_num, rfl, ⟨BV.out.below (balloc _ _)⟩, HT2⟩
                  case measure => simp [intOf]; omega
                | true =>
                  obtain ⟨q3, hq3⟩ : ∃ q3, Pl.there p z = q3 := ⟨_, rfl⟩
                  have HT2 : Aside0 ((q2 && (y.params.take (i + 1)).all (Pl.there p)) = q3) := ⟨by rw [all_step _ HZ.out, ← Bool.and_assoc, HT.out, hq3]; rfl⟩
                  have HQ := Aside0.mk hq3
                  clear hq3
                  go_wp2_with fail
                  refine (there_is (t := z) (HP.out.below (balloc _ _)) HQ.out).mono ?_
                  rintro e w' ⟨rfl, hb⟩
                  go_wp2
                  go_roundw
                  case rel => exact ⟨i + 1, q3, by omega, by go_num, rfl, ⟨BV.out.below (bthen (balloc _ _) hb)⟩, HT2⟩
                  case measure => simp [intOf]; omega
              · have hltz3 : ¬ (i : Int) < (np : Int) := by omega
                have HA2 : Aside0 ((q && (c.methods.take (j + 1)).all (fun m => Pl.there p m.ret && m.params.all (Pl.there p))) = t) := ⟨by
                  have h1 := HT.out
                  rw [List.take_of_length_le (by have := HNP.out; omega)] at h1
                  rw [all_step _ HX.out, ← Bool.and_assoc, HA.out, ← h1, ← HQ1.out]
                  cases Pl.there p y.ret <;> simp⟩
                go_wp2
                go_roundw
                case rel => exact ⟨j + 1, t, by omega, by go_num, rfl, BV, HA2⟩
                case measure => simp [intOf]; omega
        · have hltz : ¬ (j : Int) < (nm : Int) := by omega
          have hall : (c.fields.all (fun f => Pl.there p f.ty) && c.methods.all (fun m => Pl.there p m.ret && m.params.all (Pl.there p))) = r := by
            have h1 := HA.out
            rw [List.take_of_length_le (by have := HNM.out; omega)] at h1
            rw [HA1.out, h1]
          cases r with
          | false =>
            have HR : Hid (res = 70) := Lib.hid (by rw [HU.out, if_pos hall])
            clear HU HA hall
            go_wp2
            go_ret
            exact ⟨by rw [HR.out]; rfl, BW.out.bel⟩
          | true =>
            obtain ⟨ab, hab⟩ : ∃ ab, (ancestors p.h c.name).tail = ab := ⟨_, rfl⟩
            have HAB := Lib.hid hab
            have HU1 : Hid (res = if c.fields.any (fun f => ab.any fun n => hasField p n f.name) = true then 53
              else if c.methods.any (fun m => (meth p (ab.headD nil) m.name).2.2 && !sameM m (meth p (ab.headD nil) m.name).2.1) = true then 73
              else 0) := Lib.hid (by rw [HU.out, if_neg (by rw [hall]; decide), hab])
            clear HU HA hall HA1 hab
            have hanc : ∃ a b r, ancestors p.h c.name = a :: b :: r := by
              unfold ancestors
              rw [if_neg (by rw [hcn]; decide)]
              cases hl : p.h with
              | nil => rw [hl] at hcn; cases hcn
              | cons a r =>
                simp only [List.length_cons, anc, if_neg hno]
                exact ⟨_, _, _, rfl⟩
            have HANC := Lib.hid hanc
            clear hanc
            obtain ⟨_, ⟨g, hg, hI⟩, _⟩ := HP.out
            have HI := Aside0.mk hI
            clear hI
            go_wp2_with fail
            have hg' : ({ heap := wr.heap, tape := wr.tape, drawn := wr.drawn + 1, os := wr.os, output := wr.output } : World).cell? ⟨pb, 0, none⟩ = some (.pointer (some ⟨g, 0, none⟩)) := hg
            have x0' : ({ heap := wr.heap, tape := wr.tape, drawn := wr.drawn + 1, os := wr.os, output := wr.output } : World).cell? ⟨w.heap.size, 0, none⟩ = some (.pointer (some ⟨pb, 0, none⟩)) := x0
            have y0' : ({ heap := wr.heap, tape := wr.tape, drawn := wr.drawn + 1, os := wr.os, output := wr.output } : World).cell? ⟨w.heap.size + 1, 0, none⟩ = some (.string c.name) := y0
            go_still_tail 6, (by kernel_rfl)
            change wpList _ _ _ _ _ wr.drew
            go_wp2_with fail
            refine (ancestors_any g p.h c.name _ (HI.out.below (below_drew (Below.refl _ _))) (HH.out.good c.name)).mono ?_
            rintro e w1 ⟨v, rfl, hrow, hb⟩
            have BV := Aside0.mk ((BW.out.below (below_drew (Below.refl _ _))).below hb)
            obtain ⟨A, cA, rfl, hcA, hC⟩ := Kd.R_reads hrow
            clear hrow hb hg' x0' y0' x0 y0 y1 y2 y3 y4 HI hg lt0 lt1 BW
            obtain ⟨a1, b1, r1, hl1⟩ := HANC.out
            have hab := HAB.out
            rw [hl1] at hab hC hcA ⊢
            simp only [List.tail_cons] at hab
            obtain ⟨nb, hnb⟩ : ∃ nb, ab.length = nb := ⟨_, rfl⟩
            have hnb0 : 0 < nb := by rw [← hnb, ← hab]; simp
            have hlen : (a1 :: b1 :: r1).length = nb + 1 := by rw [← hnb, ← hab]; rfl
            rw [hlen] at hC hcA ⊢
            obtain ⟨ad, rfl, _⟩ := hC.2.2 (by omega)
            rw [hab] at hC
            have HCT : Aside0 (Kd.string.C w1 (some ⟨ad.block, ad.off + 1, none⟩) nb ab) := ⟨C_tail hC⟩
            have hnm1 := hC.2.1
            have HNB := Lib.hid hnb
            clear hC hlen hl1 HANC HAB hab hnb
            have z1 : (1 : Int) ≤ (nb : Int) + 1 := by omega
            have z2 : (nb : Int) + 1 ≤ (cA : Int) := by omega
            obtain ⟨y0, y1, y2, y3, y4⟩ := Bx.five ⟨BV.out.b1⟩
            go_wp2
            clear y0 y1 y2 y3 y4
            have B0 : Aside0 (Below w1.heap.size w1 w1) := ⟨Below.refl _ _⟩
            go_loopw [77] (fun s77 wr => ∃ i : Nat, i ≤ nf ∧ s77 = .int .i64 i ∧ Aside0 (Below w1.heap.size w1 wr) ∧ Aside0 (∀ f, f ∈ c.fields.take i → (ab.any fun n => hasField p n f.name) = false)) (fun s _ => nf - (intOf s).toNat)
            case atStart => exact ⟨0, Nat.zero_le _, rfl, B0, ⟨fun f hf => by simp at hf⟩⟩
            case round =>
              clear B0
              obtain ⟨i, hi, rfl, BU, HF⟩ := hrel
              have BW := Aside0.mk (BV.out.below BU.out)
              obtain ⟨lt0, lt1⟩ := BW.out.lt
              have x0 : wr.cell? ⟨w.heap.size, 0, none⟩ = some (.pointer (some ⟨pb, 0, none⟩)) := Bx.cell ⟨BW.out.b0⟩ (j := 0) rfl
              obtain ⟨y0, y1, y2, y3, y4⟩ := Bx.five ⟨BW.out.b1⟩
              have HP := Aside0.mk (HH.out.below BW.out.bel)
              by_cases hlt : i < nf
              · have hltz : (i : Int) < (nf : Int) := by omega
                have CW := CF.below BW.out.bel
                obtain ⟨af, rfl, had⟩ := CW.2 (by omega)
                clear had
                generalize hx : c.fields.getD i default = x
                have HX : Aside0 (c.fields[i]? = some x) := ⟨by rw [← hx]; exact getD_some _ (by have := HNF.out; omega)⟩
                have l0 := CW.at0 hlt (v := .string x.name) (by rw [← hx]; rfl)
                have l1 := CW.at_ hlt (i := 1) (by decide) (v := .int .i64 x.ty.kind) (by rw [← hx]; rfl)
                have l2 := CW.at_ hlt (i := 2) (by decide) (v := .string x.ty.cls) (by rw [← hx]; rfl)
                have l3 := CW.at_ hlt (i := 3) (by decide) (v := .bool x.vol) (by rw [← hx]; rfl)
                clear hx
                have eg := Aside0.mk (enters_of Try.func64 (by kernel_rfl) rfl)
                have hfc : (wr.alloc (.cells #[.string x.name, .int .i64 x.ty.kind, .string x.ty.cls, .bool x.vol] 50)).cell? ⟨wr.heap.size, 0, none⟩ = some (.string x.name) := Bx.cell ⟨blk_new _ _⟩ (j := 0) rfl
                have CS : Aside0 (Cells w1 (some ⟨ad.block, ad.off + 1, none⟩) nb 1 (fun j => [.string (ab.getD j ByteArray.empty)])) := ⟨by
                  have h1 := HCT.out
                  have h2 := HNB.out
                  rw [← h2] at h1 ⊢
                  exact cells_str h1⟩
                have HA3 : Hid (anyB (fun j => hasField p (ab.getD j ByteArray.empty) x.name) nb = (ab.any fun n => hasField p n x.name)) := Lib.hid (by rw [← HNB.out]; exact anyB_list (fun n => hasField p n x.name) ByteArray.empty ab)
                go_wp2_with fail
                refine (contains_St _ _ eg.out (some ⟨ad.block, ad.off + 1, none⟩) nb (cA - 1) _ _ _ (CS.out.below (bthen BU.out (balloc _ _))) (members1_asks pb p ab x.name w.heap.size wr.heap.size _ (HP.out.below (balloc _ _)) (pw_cell_below (balloc _ _) x0) hfc nb)).mono ?_
                rintro e w5 ⟨rfl, hb⟩
                rw [HA3.out]
                have hw5 := bthen (balloc _ _) hb
                rcases hq : (ab.any fun n => hasField p n x.name) with _ | _
                · have HF2 : Aside0 (∀ f, f ∈ c.fields.take (i + 1) → (ab.any fun n => hasField p n f.name) = false) := ⟨fun f hf => by
                    rw [List.take_add_one, HX.out] at hf
                    rcases List.mem_append.1 hf with hf | hf
                    · exact HF.out f hf
                    · have hfx : f = x := by simpa using hf
                      rw [hfx]; exact hq⟩
                  clear hq
                  go_wp2
                  go_roundw
                  case rel => exact ⟨i + 1, by omega, by go_num, ⟨bthen BU.out hw5⟩, HF2⟩
                  case measure => simp [intOf]; omega
                · have HR : Hid (res = 53) := Lib.hid (by
                    rw [HU1.out, if_pos]
                    rw [List.any_eq_true]
                    exact ⟨x, List.mem_of_getElem? HX.out, hq⟩)
                  clear hq
                  go_wp2
                  go_ret
                  exact ⟨by rw [HR.out]; rfl, bthen BW.out.bel hw5⟩
              · have hltz : ¬ (i : Int) < (nf : Int) := by omega
                have HU2 : Hid (res = if c.methods.any (fun m => (meth p (ab.headD nil) m.name).2.2 && !sameM m (meth p (ab.headD nil) m.name).2.1) = true then 73 else 0) := Lib.hid (by
                  rw [HU1.out, if_neg]
                  rw [Bool.not_eq_true, List.any_eq_false]
                  intro f hf
                  have := HF.out f (by rw [List.take_of_length_le (by have := HNF.out; omega)]; exact hf)
                  rw [this]
                  decide)
                clear HU1 HF
                go_wp2
                clear x0 y0 y1 y2 y3 y4 lt0 lt1 HP hltz
                have B0 : Aside0 (Below w1.heap.size w1 wr) := BU
                go_loopw [88] (fun s88 wr => ∃ j : Nat, j ≤ nm ∧ s88 = .int .i64 j ∧ Aside0 (Below w1.heap.size w1 wr) ∧ Aside0 (∀ m, m ∈ c.methods.take j → ((meth p (ab.headD nil) m.name).2.2 && !sameM m (meth p (ab.headD nil) m.name).2.1) = false)) (fun s _ => nm - (intOf s).toNat)
                case atStart => exact ⟨0, Nat.zero_le _, rfl, B0, ⟨fun f hf => by simp at hf⟩⟩
                case round =>
                  clear B0 BU BW
                  obtain ⟨j, hj, rfl, BU, HF⟩ := hrel
                  have BW := Aside0.mk (BV.out.below BU.out)
                  obtain ⟨lt0, lt1⟩ := BW.out.lt
                  by_cases hlt : j < nm
                  · have hltz : (j : Int) < (nm : Int) := by omega
                    have CW := CM.below BW.out.bel
                    obtain ⟨ae, rfl, had⟩ := CW.2 (by omega)
                    clear had
                    have HK := KM.out j (by have := HNM.out; omega)
                    generalize hx : c.methods.getD j default = y at HK
                    have HX : Aside0 (c.methods[j]? = some y) := ⟨by rw [← hx]; exact getD_some _ (by have := HNM.out; omega)⟩
                    obtain ⟨B0, d0, B1, d1, B2, d2, hcs, _, _, _, _⟩ := mtK_open HK
                    rw [hcs] at HK
                    have HK := Aside0.mk HK
                    have l0 := CW.at0 hlt (v := .string y.name) (by rw [hcs]; rfl)
                    have l1 := CW.at_ hlt (i := 1) (by decide) (v := .slice B0 y.params.length d0) (by rw [hcs]; rfl)
                    have l2 := CW.at_ hlt (i := 2) (by decide) (v := .int .i64 y.ret.kind) (by rw [hcs]; rfl)
                    have l3 := CW.at_ hlt (i := 3) (by decide) (v := .string y.ret.cls) (by rw [hcs]; rfl)
                    have l4 := CW.at_ hlt (i := 4) (by decide) (v := .int .i64 y.locals) (by rw [hcs]; rfl)
                    have l5 := CW.at_ hlt (i := 5) (by decide) (v := .int .i64 y.stack) (by rw [hcs]; rfl)
                    have l6 := CW.at_ hlt (i := 6) (by decide) (v := .slice B1 y.code.length d1) (by rw [hcs]; rfl)
                    have l7 := CW.at_ hlt (i := 7) (by decide) (v := .slice B2 y.handlers.length d2) (by rw [hcs]; rfl)
                    clear hx hcs
                    go_wp2_with fail
                    obtain ⟨g3, hg3⟩ : ∃ g3, g3 = wr.heap.size := ⟨_, rfl⟩
                    obtain ⟨W1, hW1⟩ : ∃ W1, W1 = wr.alloc (.cells #[.string y.name, .slice B0 y.params.length d0, .int .i64 y.ret.kind, .string y.ret.cls, .int .i64 y.locals, .int .i64 y.stack, .slice B1 y.code.length d1, .slice B2 y.handlers.length d2] 66) := ⟨_, rfl⟩
                    have hbm : W1.heap[g3]? = some (.cells #[.string y.name, .slice B0 y.params.length d0, .int .i64 y.ret.kind, .string y.ret.cls, .int .i64 y.locals, .int .i64 y.stack, .slice B1 y.code.length d1, .slice B2 y.handlers.length d2] 66) := by rw [hW1, hg3]; exact blk_new _ _
                    have BU1 : Aside0 (Below w1.heap.size w1 W1) := ⟨by rw [hW1]; exact bthen BU.out (balloc _ _)⟩
                    rw [← hW1, ← hg3]
                    clear hW1 hg3 l0 l1 l2 l3 l4 l5 l6 l7 lt0 lt1 BU BW
                    have BW := Aside0.mk (BV.out.below BU1.out)
                    have x0 : W1.cell? ⟨w.heap.size, 0, none⟩ = some (.pointer (some ⟨pb, 0, none⟩)) := Bx.cell ⟨BW.out.b0⟩ (j := 0) rfl
                    have z0 : W1.cell? ⟨g3, 0, none⟩ = some (.string y.name) := Bx.cell ⟨hbm⟩ (j := 0) rfl
                    obtain ⟨h0, hh0⟩ : ∃ h0, ab.headD nil = h0 := ⟨_, rfl⟩
                    have ha0 : ab[0]? = some h0 := by
                      have h1 := HNB.out
                      cases hab : ab with
                      | nil => rw [hab] at h1; simp at h1; omega
                      | cons a r => rw [hab] at hh0; simpa using hh0
                    obtain ⟨ad', he, s0⟩ := at_str (Kd.C_below HCT.out BU1.out) ha0
                    cases he
                    replace s0 : W1.cell? ⟨ad.block, ad.off + 1, none⟩ = some (.string h0) := s0
                    have HP1 := Aside0.mk (HH.out.below BV.out.bel)
                    have HH0 := Aside0.mk hh0
                    clear ha0 hh0
                    have x0d : W1.drew.cell? ⟨w.heap.size, 0, none⟩ = some (.pointer (some ⟨pb, 0, none⟩)) := x0
                    have z0d : W1.drew.cell? ⟨g3, 0, none⟩ = some (.string y.name) := z0
                    have s0d : W1.drew.cell? ⟨ad.block, ad.off + 1, none⟩ = some (.string h0) := s0
                    have x0e : ∀ o, (W1.drew.alloc o).cell? ⟨w.heap.size, 0, none⟩ = some (.pointer (some ⟨pb, 0, none⟩)) := fun o => pw_cell_below (balloc _ o) x0d
                    have z0e : ∀ o, (W1.drew.alloc o).cell? ⟨g3, 0, none⟩ = some (.string y.name) := fun o => pw_cell_below (balloc _ o) z0d
                    have s0e : ∀ o, (W1.drew.alloc o).cell? ⟨ad.block, ad.off + 1, none⟩ = some (.string h0) := fun o => pw_cell_below (balloc _ o) s0d
                    have x0f : ∀ o, (W1.alloc o).drew.cell? ⟨w.heap.size, 0, none⟩ = some (.pointer (some ⟨pb, 0, none⟩)) := fun o => pw_cell_below (balloc W1 o) x0
                    have z0f : ∀ o, (W1.alloc o).drew.cell? ⟨g3, 0, none⟩ = some (.string y.name) := fun o => pw_cell_below (balloc W1 o) z0
                    have s0f : ∀ o, (W1.alloc o).drew.cell? ⟨ad.block, ad.off + 1, none⟩ = some (.string h0) := fun o => pw_cell_below (balloc W1 o) s0
                    have n0 : (⟨w.heap.size, 0, none⟩ : Addr).block ≠ W1.heap.size := Nat.ne_of_lt (World.block_lt_of_cell? W1 _ x0)
                    have n1 : (⟨g3, 0, none⟩ : Addr).block ≠ W1.heap.size := Nat.ne_of_lt (World.block_lt_of_cell? W1 _ z0)
                    have n2 : (⟨ad.block, ad.off + 1, none⟩ : Addr).block ≠ W1.heap.size := Nat.ne_of_lt (World.block_lt_of_cell? W1 _ s0)
                    have bel_d : Below w1.heap.size w1 W1.drew := below_drew BU1.out
                    have bel_e : ∀ o, Below w1.heap.size w1 (W1.drew.alloc o) := fun o => bthen bel_d (balloc _ o)
                    have bel_f : ∀ o, Below w1.heap.size w1 (W1.alloc o).drew := fun o => below_drew (bthen BU1.out (balloc _ o))
                    go_region_held3 (fun w' => w'.cell? ⟨w.heap.size, 0, none⟩ = some (.pointer (some ⟨pb, 0, none⟩)) ∧ w'.cell? ⟨g3, 0, none⟩ = some (.string y.name) ∧ w'.cell? ⟨ad.block, ad.off + 1, none⟩ = some (.string h0)) (first | (with_reducible exact ⟨x0d, z0d, s0d⟩) | (with_reducible exact ⟨pw_cell_below hb x0d, pw_cell_below hb z0d, pw_cell_below hb s0d⟩) | (with_reducible exact ⟨x0e _, z0e _, s0e _⟩) | (with_reducible exact ⟨x0f _, z0f _, s0f _⟩) | (with_reducible exact ⟨pw_cell_below hb (x0e _), pw_cell_below hb (z0e _), pw_cell_below hb (s0e _)⟩) | (with_reducible exact ⟨pw_cell_below hb (x0f _), pw_cell_below hb (z0f _), pw_cell_below hb (s0f _)⟩) | (with_reducible exact ⟨pw_cell_below (balloc _ _) (pw_cell_below hb x0d), pw_cell_below (balloc _ _) (pw_cell_below hb z0d), pw_cell_below (balloc _ _) (pw_cell_below hb s0d)⟩) | (with_reducible exact ⟨chain_cell n0 (pw_cell_below hb (x0e _)), chain_cell n1 (pw_cell_below hb (z0e _)), chain_cell n2 (pw_cell_below hb (s0e _))⟩) | (with_reducible exact ⟨chain_cell n0 (pw_cell_below hb (x0f _)), chain_cell n1 (pw_cell_below hb (z0f _)), chain_cell n2 (pw_cell_below hb (s0f _))⟩) | (trace_state; fail)) (first | (go_at_call 22; (refine (meth_at pb p h0 y.name w1 _ HP1.out ?_).mono ?_); (first | (with_reducible exact bel_d) | (with_reducible exact bel_e _) | (with_reducible exact bel_f _) | (trace_state; fail)); rintro e w5 ⟨mcs, rfl, hK5, hb⟩; obtain ⟨E0, e0, E1, e1, E2, e2, rfl, _, _, _, _⟩ := mtK_open hK5; replace hK5 := Aside0.mk hK5; (first | (have hz := casB W1 w5 (.cells #[.string ⟨#[]⟩, .slice none 0 0, .int .i64 0, .string ⟨#[]⟩, .int .i64 0, .int .i64 0, .slice none 0 0, .slice none 0 0] 66) (by with_reducible first | exact Or.inl hb | exact Or.inr hb); obtain ⟨q0, q1, q2, q3, q4, q5, q6, q7⟩ := Bx.eight ⟨hz⟩; have hfz : ∀ j, w5.frozen? ⟨W1.heap.size, j, none⟩ = false := fun j => by unfold World.frozen?; rw [hz]; simp) | skip)))
                    · have hall : Below w1.heap.size w1 (w5.alloc (.cells #[.string (meth p h0 y.name).2.1.name, .slice E0 (meth p h0 y.name).2.1.params.length e0, .int .i64 (meth p h0 y.name).2.1.ret.kind, .string (meth p h0 y.name).2.1.ret.cls, .int .i64 (meth p h0 y.name).2.1.locals, .int .i64 (meth p h0 y.name).2.1.stack, .slice E1 (meth p h0 y.name).2.1.code.length e1, .slice E2 (meth p h0 y.name).2.1.handlers.length e2] 66)) ∧ (w5.alloc (.cells #[.string (meth p h0 y.name).2.1.name, .slice E0 (meth p h0 y.name).2.1.params.length e0, .int .i64 (meth p h0 y.name).2.1.ret.kind, .string (meth p h0 y.name).2.1.ret.cls, .int .i64 (meth p h0 y.name).2.1.locals, .int .i64 (meth p h0 y.name).2.1.stack, .slice E1 (meth p h0 y.name).2.1.code.length e1, .slice E2 (meth p h0 y.name).2.1.handlers.length e2] 66)).heap[w5.heap.size]? = some (.cells #[.string (meth p h0 y.name).2.1.name, .slice E0 (meth p h0 y.name).2.1.params.length e0, .int .i64 (meth p h0 y.name).2.1.ret.kind, .string (meth p h0 y.name).2.1.ret.cls, .int .i64 (meth p h0 y.name).2.1.locals, .int .i64 (meth p h0 y.name).2.1.stack, .slice E1 (meth p h0 y.name).2.1.code.length e1, .slice E2 (meth p h0 y.name).2.1.handlers.length e2] 66) ∧ (w5.alloc (.cells #[.string (meth p h0 y.name).2.1.name, .slice E0 (meth p h0 y.name).2.1.params.length e0, .int .i64 (meth p h0 y.name).2.1.ret.kind, .string (meth p h0 y.name).2.1.ret.cls, .int .i64 (meth p h0 y.name).2.1.locals, .int .i64 (meth p h0 y.name).2.1.stack, .slice E1 (meth p h0 y.name).2.1.code.length e1, .slice E2 (meth p h0 y.name).2.1.handlers.length e2] 66)).heap[g3]? = some (.cells #[.string y.name, .slice B0 y.params.length d0, .int .i64 y.ret.kind, .string y.ret.cls, .int .i64 y.locals, .int .i64 y.stack, .slice B1 y.code.length d1, .slice B2 y.handlers.length d2] 66) := ⟨bthen (bthen bel_d hb) (balloc _ _), blk_new _ _, blk_below (blk_below (blk_drew hbm) hb) (balloc _ _)⟩
                      clear x0 z0 s0 x0d z0d s0d x0e z0e s0e x0f z0f s0f n0 n1 n2 bel_d bel_e bel_f hb hbm
                      revert hall
                      generalize w5.alloc (.cells #[.string (meth p h0 y.name).2.1.name, .slice E0 (meth p h0 y.name).2.1.params.length e0, .int .i64 (meth p h0 y.name).2.1.ret.kind, .string (meth p h0 y.name).2.1.ret.cls, .int .i64 (meth p h0 y.name).2.1.locals, .int .i64 (meth p h0 y.name).2.1.stack, .slice E1 (meth p h0 y.name).2.1.code.length e1, .slice E2 (meth p h0 y.name).2.1.handlers.length e2] 66) = Wf
                      generalize w5.heap.size = gr
                      intro hall
                      obtain ⟨hbf, hbo, hbm2⟩ := hall
                      obtain ⟨m0, m1, m2, m3, m4, m5, m6, m7⟩ := Bx.eight ⟨hbo⟩
                      obtain ⟨z0, z1, z2, z3, z4, z5, z6, z7⟩ := Bx.eight ⟨hbm2⟩
                      have hbw := bthen BV.out.bel hbf
                      have HQm := HH0.out
                      rcases hok : (meth p h0 y.name).2.2 with _ | _
                      · have HF2 : Aside0 (∀ m, m ∈ c.methods.take (j + 1) → ((meth p (ab.headD nil) m.name).2.2 && !sameM m (meth p (ab.headD nil) m.name).2.1) = false) := ⟨fun f hf => by
                          rw [List.take_add_one, HX.out] at hf
                          rcases List.mem_append.1 hf with hf | hf
                          · exact HF.out f hf
                          · have hfx : f = y := by simpa using hf
                            rw [hfx, HQm, hok]
                            rfl⟩
                        clear HQm hok
                        go_wp2
                        go_roundw
                        case rel => exact ⟨j + 1, by omega, by go_num, ⟨hbf⟩, HF2⟩
                        case measure => simp [intOf]; omega
                      · obtain ⟨q, hq⟩ : ∃ q, sameM y (meth p h0 y.name).2.1 = q := ⟨_, rfl⟩
                        have hcond : ((meth p (ab.headD nil) y.name).2.2 && !sameM y (meth p (ab.headD nil) y.name).2.1) = !q := by rw [HQm, hok, hq]; rfl
                        have HCOND := Aside0.mk hcond
                        have HQ := Aside0.mk hq
                        clear HQm hok hq hcond
                        go_wp2_with fail
                        refine (same_is (mtK.K_below hbw HK.out) (mtK.K_below hbf hK5.out) HQ.out).mono ?_
                        rintro e w6 ⟨rfl, hb6⟩
                        cases q with
                        | true =>
                          have HF2 : Aside0 (∀ m, m ∈ c.methods.take (j + 1) → ((meth p (ab.headD nil) m.name).2.2 && !sameM m (meth p (ab.headD nil) m.name).2.1) = false) := ⟨fun f hf => by
                            rw [List.take_add_one, HX.out] at hf
                            rcases List.mem_append.1 hf with hf | hf
                            · exact HF.out f hf
                            · have hfx : f = y := by simpa using hf
                              rw [hfx, HCOND.out]
                              rfl⟩
                          go_wp2
                          go_roundw
                          case rel => exact ⟨j + 1, by omega, by go_num, ⟨bthen hbf hb6⟩, HF2⟩
                          case measure => simp [intOf]; omega
                        | false =>
                          have HR : Hid (res = 73) := Lib.hid (by
                            rw [HU2.out, if_pos]
                            rw [List.any_eq_true]
                            exact ⟨y, List.mem_of_getElem? HX.out, by rw [HCOND.out]; rfl⟩)
                          go_wp2
                          go_ret
                          exact ⟨by rw [HR.out]; rfl, bthen hbw hb6⟩
                    · have hch := chain8' (v0 := .string (meth p h0 y.name).2.1.name) (v1 := .slice E0 (meth p h0 y.name).2.1.params.length e0) (v2 := .int .i64 (meth p h0 y.name).2.1.ret.kind) (v3 := .string (meth p h0 y.name).2.1.ret.cls) (v4 := .int .i64 (meth p h0 y.name).2.1.locals) (v5 := .int .i64 (meth p h0 y.name).2.1.stack) (v6 := .slice E1 (meth p h0 y.name).2.1.code.length e1) (v7 := .slice E2 (meth p h0 y.name).2.1.handlers.length e2) (bthen (bel_f _) hb) BU1.out.size hz
                      have hall : Below w1.heap.size w1 ((((((((w5.setCell ⟨W1.heap.size, 0, none⟩ (.string (meth p h0 y.name).2.1.name)).setCell ⟨W1.heap.size, 1, none⟩ (.slice E0 (meth p h0 y.name).2.1.params.length e0)).setCell ⟨W1.heap.size, 2, none⟩ (.int .i64 (meth p h0 y.name).2.1.ret.kind)).setCell ⟨W1.heap.size, 3, none⟩ (.string (meth p h0 y.name).2.1.ret.cls)).setCell ⟨W1.heap.size, 4, none⟩ (.int .i64 (meth p h0 y.name).2.1.locals)).setCell ⟨W1.heap.size, 5, none⟩ (.int .i64 (meth p h0 y.name).2.1.stack)).setCell ⟨W1.heap.size, 6, none⟩ (.slice E1 (meth p h0 y.name).2.1.code.length e1)).setCell ⟨W1.heap.size, 7, none⟩ (.slice E2 (meth p h0 y.name).2.1.handlers.length e2)) ∧ ((((((((w5.setCell ⟨W1.heap.size, 0, none⟩ (.string (meth p h0 y.name).2.1.name)).setCell ⟨W1.heap.size, 1, none⟩ (.slice E0 (meth p h0 y.name).2.1.params.length e0)).setCell ⟨W1.heap.size, 2, none⟩ (.int .i64 (meth p h0 y.name).2.1.ret.kind)).setCell ⟨W1.heap.size, 3, none⟩ (.string (meth p h0 y.name).2.1.ret.cls)).setCell ⟨W1.heap.size, 4, none⟩ (.int .i64 (meth p h0 y.name).2.1.locals)).setCell ⟨W1.heap.size, 5, none⟩ (.int .i64 (meth p h0 y.name).2.1.stack)).setCell ⟨W1.heap.size, 6, none⟩ (.slice E1 (meth p h0 y.name).2.1.code.length e1)).setCell ⟨W1.heap.size, 7, none⟩ (.slice E2 (meth p h0 y.name).2.1.handlers.length e2)).heap[W1.heap.size]? = some (.cells #[.string (meth p h0 y.name).2.1.name, .slice E0 (meth p h0 y.name).2.1.params.length e0, .int .i64 (meth p h0 y.name).2.1.ret.kind, .string (meth p h0 y.name).2.1.ret.cls, .int .i64 (meth p h0 y.name).2.1.locals, .int .i64 (meth p h0 y.name).2.1.stack, .slice E1 (meth p h0 y.name).2.1.code.length e1, .slice E2 (meth p h0 y.name).2.1.handlers.length e2] 66) ∧ ((((((((w5.setCell ⟨W1.heap.size, 0, none⟩ (.string (meth p h0 y.name).2.1.name)).setCell ⟨W1.heap.size, 1, none⟩ (.slice E0 (meth p h0 y.name).2.1.params.length e0)).setCell ⟨W1.heap.size, 2, none⟩ (.int .i64 (meth p h0 y.name).2.1.ret.kind)).setCell ⟨W1.heap.size, 3, none⟩ (.string (meth p h0 y.name).2.1.ret.cls)).setCell ⟨W1.heap.size, 4, none⟩ (.int .i64 (meth p h0 y.name).2.1.locals)).setCell ⟨W1.heap.size, 5, none⟩ (.int .i64 (meth p h0 y.name).2.1.stack)).setCell ⟨W1.heap.size, 6, none⟩ (.slice E1 (meth p h0 y.name).2.1.code.length e1)).setCell ⟨W1.heap.size, 7, none⟩ (.slice E2 (meth p h0 y.name).2.1.handlers.length e2)).heap[g3]? = some (.cells #[.string y.name, .slice B0 y.params.length d0, .int .i64 y.ret.kind, .string y.ret.cls, .int .i64 y.locals, .int .i64 y.stack, .slice B1 y.code.length d1, .slice B2 y.handlers.length d2] 66) := ⟨hch.1, hch.2.1, (hch.2.2 g3 n1).trans (blk_below (blk_drew (blk_alloc hbm _)) hb)⟩
                      clear x0 z0 s0 x0d z0d s0d x0e z0e s0e x0f z0f s0f n0 n1 n2 bel_d bel_e bel_f hb hbm hch hz hfz q0 q1 q2 q3 q4 q5 q6 q7
                      revert hall
                      generalize ((((((((w5.setCell ⟨W1.heap.size, 0, none⟩ (.string (meth p h0 y.name).2.1.name)).setCell ⟨W1.heap.size, 1, none⟩ (.slice E0 (meth p h0 y.name).2.1.params.length e0)).setCell ⟨W1.heap.size, 2, none⟩ (.int .i64 (meth p h0 y.name).2.1.ret.kind)).setCell ⟨W1.heap.size, 3, none⟩ (.string (meth p h0 y.name).2.1.ret.cls)).setCell ⟨W1.heap.size, 4, none⟩ (.int .i64 (meth p h0 y.name).2.1.locals)).setCell ⟨W1.heap.size, 5, none⟩ (.int .i64 (meth p h0 y.name).2.1.stack)).setCell ⟨W1.heap.size, 6, none⟩ (.slice E1 (meth p h0 y.name).2.1.code.length e1)).setCell ⟨W1.heap.size, 7, none⟩ (.slice E2 (meth p h0 y.name).2.1.handlers.length e2)) = Wf
                      generalize W1.heap.size = gr
                      intro hall
                      obtain ⟨hbf, hbo, hbm2⟩ := hall
                      obtain ⟨m0, m1, m2, m3, m4, m5, m6, m7⟩ := Bx.eight ⟨hbo⟩
                      obtain ⟨z0, z1, z2, z3, z4, z5, z6, z7⟩ := Bx.eight ⟨hbm2⟩
                      have hbw := bthen BV.out.bel hbf
                      have HQm := HH0.out
                      rcases hok : (meth p h0 y.name).2.2 with _ | _
                      · have HF2 : Aside0 (∀ m, m ∈ c.methods.take (j + 1) → ((meth p (ab.headD nil) m.name).2.2 && !sameM m (meth p (ab.headD nil) m.name).2.1) = false) := ⟨fun f hf => by
                          rw [List.take_add_one, HX.out] at hf
                          rcases List.mem_append.1 hf with hf | hf
                          · exact HF.out f hf
                          · have hfx : f = y := by simpa using hf
                            rw [hfx, HQm, hok]
                            rfl⟩
                        clear HQm hok
                        go_wp2
                        go_roundw
                        case rel => exact ⟨j + 1, by omega, by go_num, ⟨hbf⟩, HF2⟩
                        case measure => simp [intOf]; omega
                      · obtain ⟨q, hq⟩ : ∃ q, sameM y (meth p h0 y.name).2.1 = q := ⟨_, rfl⟩
                        have hcond : ((meth p (ab.headD nil) y.name).2.2 && !sameM y (meth p (ab.headD nil) y.name).2.1) = !q := by rw [HQm, hok, hq]; rfl
                        have HCOND := Aside0.mk hcond
                        have HQ := Aside0.mk hq
                        clear HQm hok hq hcond
                        go_wp2_with fail
                        refine (same_is (mtK.K_below hbw HK.out) (mtK.K_below hbf hK5.out) HQ.out).mono ?_
                        rintro e w6 ⟨rfl, hb6⟩
                        cases q with
                        | true =>
                          have HF2 : Aside0 (∀ m, m ∈ c.methods.take (j + 1) → ((meth p (ab.headD nil) m.name).2.2 && !sameM m (meth p (ab.headD nil) m.name).2.1) = false) := ⟨fun f hf => by
                            rw [List.take_add_one, HX.out] at hf
                            rcases List.mem_append.1 hf with hf | hf
                            · exact HF.out f hf
                            · have hfx : f = y := by simpa using hf
                              rw [hfx, HCOND.out]
                              rfl⟩
                          go_wp2
                          go_roundw
                          case rel => exact ⟨j + 1, by omega, by go_num, ⟨bthen hbf hb6⟩, HF2⟩
                          case measure => simp [intOf]; omega
                        | false =>
                          have HR : Hid (res = 73) := Lib.hid (by
                            rw [HU2.out, if_pos]
                            rw [List.any_eq_true]
                            exact ⟨y, List.mem_of_getElem? HX.out, by rw [HCOND.out]; rfl⟩)
                          go_wp2
                          go_ret
                          exact ⟨by rw [HR.out]; rfl, bthen hbw hb6⟩
                  · have hltz : ¬ (j : Int) < (nm : Int) := by omega
                    have HR : Hid (res = 0) := Lib.hid (by
                      rw [HU2.out, if_neg]
                      rw [Bool.not_eq_true, List.any_eq_false]
                      intro f hf
                      have := HF.out f (by rw [List.take_of_length_le (by have := HNM.out; omega)]; exact hf)
                      rw [this]
                      decide)
                    go_wp2
                    go_ret
                    exact ⟨by rw [HR.out]; rfl, BW.out.bel⟩
end Go.Proofs.Ytpdjkclacbgneaa
