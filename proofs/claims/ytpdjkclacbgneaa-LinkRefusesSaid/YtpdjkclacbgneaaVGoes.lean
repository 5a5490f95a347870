/- verify's goes: an instruction's state goes on. -/
import Derived.Test.YtpdjkclacbgneaaVJoin3
set_option linter.unusedVariables false
set_option linter.unusedSimpArgs false
namespace Go.Proofs.Ytpdjkclacbgneaa
open Go.RowKit Go.Shelf Go.Proofs.YtpdjkclacbgneaaW.PrintWords Go.Proofs.Ytpdjkclacbgneaa.Pl

/-- What is true of a flow's states. -/
def StOk (n : Nat) (most : Int) (l : List St) : Prop := ∀ (i : Nat) (s : St), l[i]? = some s → s.reached = true → s.locals.length = n ∧ (s.stack.length : Int) ≤ most
/-- What the walk asks of a method: no handlers; its instructions are told of, and lead somewhere. -/
structure MtOk (c : Cl) (m : Mt) (n : Nat) : Prop where
  nh : m.handlers = []
  n9 : n ≤ 900
  s9 : m.stack ≤ 800
  one : 0 < m.code.length
  ins : ∀ (i : Nat) (x : In), m.code[i]? = some x → plainOp x.op = true ∧ okIns c n x ∧ (jumps x.op = true → 0 ≤ x.a ∧ x.a < m.code.length) ∧ (stops x.op = false → i + 1 < m.code.length)
/-- The state that goes on. -/
theorem goes_eq (p : Pg) (c : Cl) (m : Mt) (l : List St) (ch : Bool) (pc : Nat) (i : In) (s : St) (hi : m.code[pc]? = some i) (hs : l[pc]? = some s) :
    goes p c m l ch pc = (let r := does p c m.ret.kind ⟨s.locals, s.stack, 0⟩ i
      if r.e ≠ 0 then ⟨r.e, l, ch⟩
      else if m.stack < r.stack.length then ⟨81, l, ch⟩
      else
        let a := if jumps i.op then joins p m.stack l ch i.a.toNat ⟨s.reached, r.locals, r.stack⟩ else ⟨0, l, ch⟩
        if a.e ≠ 0 then a else if stops i.op then a else joins p m.stack a.l a.changed (pc + 1) ⟨s.reached, r.locals, r.stack⟩) := by
  have h1 : m.code.getD pc default = i := by rw [List.getD_eq_getElem?_getD, hi]; rfl
  have h2 : l.getD pc default = s := by rw [List.getD_eq_getElem?_getD, hs]; rfl
  unfold goes
  simp only [h1, h2]
theorem joins_len (p : Pg) (most : Int) (l : List St) (ch : Bool) (pc : Nat) (s : St) : (joins p most l ch pc s).l.length = l.length := by
  unfold joins
  simp only
  split
  · rfl
  · split
    · simp
    · split
      · rfl
      · split
        · rfl
        · simp
theorem joins_ok {p : Pg} {most : Int} {l : List St} {ch : Bool} {pc n : Nat} {s : St} (h : StOk n most l) (hs : s.locals.length = n) : StOk n most (joins p most l ch pc s).l := by
  unfold joins
  simp only
  split
  · exact h
  · rename_i h1
    have h1 : (s.stack.length : Int) ≤ most := by omega
    split
    · unfold StOk
      intro i t hi ht
      by_cases hip : pc = i
      · subst hip
        rw [List.getElem?_set] at hi
        split at hi
        · split at hi
          · cases hi; exact ⟨hs, h1⟩
          · cases hi
        · exact h _ t hi ht
      · rw [List.getElem?_set_ne hip] at hi
        exact h i t hi ht
    · rename_i h2
      split
      · exact h
      · split
        · exact h
        · unfold StOk
          intro i t hi ht
          by_cases hip : pc = i
          · subst hip
            rw [List.getElem?_set] at hi
            simp only [if_true] at hi
            split at hi
            · rename_i hl
              cases hi
              have hw : l[pc]? = some (l.getD pc default) := getD_some _ hl
              have := h pc _ hw (by simpa using h2)
              exact ⟨by simp only [mergeL_len]; exact this.1, by simp only [mergeL_len]; exact this.2⟩
            · cases hi
          · rw [List.getElem?_set_ne hip] at hi
            exact h i t hi ht
theorem goes_len (p : Pg) (c : Cl) (m : Mt) (l : List St) (ch : Bool) (pc : Nat) : (goes p c m l ch pc).l.length = l.length := by
  unfold goes
  simp only
  repeat' split
  all_goals first | rfl | (simp only [joins_len]; done)
theorem goes_ok {p : Pg} {c : Cl} {m : Mt} {l : List St} {ch : Bool} {pc n : Nat} (h : StOk n m.stack l) (hpc : pc < l.length) (hr : (l.getD pc default).reached = true) : StOk n m.stack (goes p c m l ch pc).l := by
  have hs := h pc _ (getD_some _ hpc) hr
  have hz : Sized n (l.getD pc default).stack.length ⟨(l.getD pc default).locals, (l.getD pc default).stack, 0⟩ := ⟨hs.1, Nat.le_refl _⟩
  have hd := (does_sized p c m.ret.kind hz (m.code.getD pc default)).1
  unfold goes
  simp only
  repeat' split
  all_goals first | exact h | exact joins_ok h hd | exact joins_ok (joins_ok h hd) hd
theorem blk_differ {w : World} {a b : Nat} {cs cs' : Array Value} {t t' : TypeId} (h : w.heap[a]? = some (.cells cs t (0, 0))) (h' : w.heap[b]? = some (.cells cs' t' (0, 0))) (ht : t ≠ t') : a ≠ b := by
  intro e
  rw [e, h'] at h
  simp only [Option.some.injEq, Obj.cells.injEq] at h
  exact ht h.2.1.symm
theorem own_keep2 {B : Nat} {w w' : World} {fb lb : Nat} {v : Value} {l : List Ty} {cf cl : Array Value} (h : OwnTy B w v l) (hk : Keep2 w w' fb lb) (hf : w.heap[fb]? = some (.cells cf FT (0, 0))) (hl : w.heap[lb]? = some (.cells cl ST (0, 0))) : OwnTy B w' v l :=
  own_move h fun k hv => by
    obtain ⟨cs, hc⟩ := own_typed h k hv
    exact hk k (blk_lt hc) (blk_differ hc hf (by decide)) (blk_differ hc hl (by decide))
theorem RunAt.keep2 {B : Nat} {w w' : World} {rb fb lb : Nat} {r : Rn} {cf cl : Array Value} (h : RunAt B w rb fb r) (hk : Keep2 w w' fb lb) (hf : w.heap[fb]? = some (.cells cf FT (0, 0))) (hl : w.heap[lb]? = some (.cells cl ST (0, 0))) : RunAt B w' rb fb r := by
  obtain ⟨h1, L, S, h2, h3, h4, h5⟩ := h
  exact ⟨h1, L, S, (hk rb (blk_lt h2) (blk_differ h2 hf (by decide)) (blk_differ h2 hl (by decide))).trans h2, own_keep2 h3 hk hf hl, own_keep2 h4 hk hf hl, h5⟩
/-- The run's state, as joins takes it. -/
theorem RunAt.arg {B : Nat} {w : World} {rb fb n k : Nat} {r : Rn} (h : RunAt B w rb fb r) (hz : Sized n k r) (hn : n ≤ 1000) (hk : k ≤ 1000) :
    ∃ AL cL AS cS, w.cell? ⟨rb, 1, none⟩ = some (.bool true) ∧ w.cell? ⟨rb, 2, none⟩ = some (.slice AL r.locals.length cL) ∧ w.cell? ⟨rb, 3, none⟩ = some (.slice AS r.stack.length cS) ∧ w.cell? ⟨rb, 4, none⟩ = some (.slice none 0 0) ∧ w.cell? ⟨rb, 5, none⟩ = some (.int .i64 r.e) ∧ Arg w ⟨true, r.locals, r.stack⟩ AL cL AS cS := by
  obtain ⟨h1, L, S, h2, h3, h4, h5⟩ := h
  obtain ⟨AL, cL, rfl⟩ := h3.slice
  obtain ⟨AS, cS, rfl⟩ := h4.slice
  obtain ⟨c0, c1, c2, c3, c4, c5, _⟩ := run_cells h2
  exact ⟨AL, cL, AS, cS, c1, c2, c3, c4, c5, ⟨⟨_, h3⟩, ⟨_, h4⟩, by have := hz.1; show r.locals.length ≤ 1000; omega, by have := hz.2; show r.stack.length ≤ 1000; omega⟩⟩
theorem FlowAt.blks {wB w : World} {fb lb pb : Nat} {p : Pg} {c : Cl} {m : Mt} {l : List St} {ch : Bool} (h : FlowAt wB w fb lb pb p c m l ch) : ∃ cf cl, w.heap[fb]? = some (.cells cf FT (0, 0)) ∧ w.heap[lb]? = some (.cells cl ST (0, 0)) := by
  obtain ⟨_, _, _, _, _, _, _, _, _, _, _, _, _, h1, _⟩ := h.fcell
  obtain ⟨cs, h2, _⟩ := h.lcell
  exact ⟨_, _, h1, h2⟩
set_option maxRecDepth 100000 in
set_option maxHeartbeats 2000000 in
theorem goes_any {wB w : World} {fb lb pb : Nat} {p : Pg} {c : Cl} {m : Mt} {l : List St} {ch : Bool} (h : FlowAt wB w fb lb pb p c m l ch) (n : Nat) (hM : MtOk c m n) (hlen : l.length = m.code.length) (hok : StOk n m.stack l) (pc : Nat) (s : St) (hs : l[pc]? = some s) (hr : s.reached = true) :
    Calls Try.prog 53 #[.pointer (some ⟨fb, 0, none⟩), .int .i64 pc] w (JoinsPost wB w fb lb pb p c m (goes p c m l ch pc)) := by
  have hlt := (List.getElem?_eq_some_iff.1 hs).1
  obtain ⟨i, hi⟩ : ∃ i, m.code[pc]? = some i := ⟨_, List.getElem?_eq_getElem (by omega)⟩
  have HG := Lib.hid (goes_eq p c m l ch pc i s hi hs)
  obtain ⟨i1, i2, i3, i4⟩ := hM.ins pc i hi
  obtain ⟨s1, s2⟩ := hok pc s hs hr
  obtain ⟨r, hrr⟩ : ∃ r, does p c m.ret.kind ⟨s.locals, s.stack, 0⟩ i = r := ⟨_, rfl⟩
  have s9 := hM.s9
  have n9 := hM.n9
  have hz : Sized n (s.stack.length + 1) r := by rw [← hrr]; exact does_sized p c m.ret.kind ⟨s1, Nat.le_refl _⟩ i
  have hcl : (pc : Int) < (m.code.length : Int) := by omega
  have hll : (pc : Int) < (l.length : Int) := by omega
  have hp0 : (0 : Int) ≤ (pc : Int) := by omega
  obtain ⟨Ac, kc, Ah, kh, f12, hC, f13⟩ := h.code
  have CC := cells_in hC
  obtain ⟨ac, rfl, _⟩ := CC.2 (by omega)
  have ei : m.code.getD pc default = i := by rw [List.getD_eq_getElem?_getD, hi]; rfl
  have x0 := CC.at0 (j := pc) (by omega) (v := .int .i64 i.op) (by simp only [ei]; rfl)
  have x1 := CC.at_ (j := pc) (i := 1) (by omega) (by decide) (v := .int .i64 i.a) (by simp only [ei]; rfl)
  have hmax := CC.1
  obtain ⟨L, S, o1, o2, k0, k1, k2, k3, kf⟩ := h.st hs
  obtain ⟨A1, d1, rfl⟩ := o1.slice
  obtain ⟨A2, d2, rfl⟩ := o2.slice
  obtain ⟨f0, f11, f14, f15, ff⟩ := h.reads
  obtain ⟨ad, had⟩ : ∃ ad : Addr, ad = ⟨lb, 0, none⟩ := ⟨_, rfl⟩
  have hfb := h.flt
  have hlb := h.llt
  have hsz := h.bel.size
  rw [hr] at k0
  have a0 : w.cell? (ad.add (pc * 4)) = some (.bool true) := by rw [had, add_lit]; exact k0
  have a1 : w.cell? (at4 ad pc 1) = some (.slice A1 s.locals.length d1) := by rw [had, at4_lit]; exact k1
  have a2 : w.cell? (at4 ad pc 2) = some (.slice A2 s.stack.length d2) := by rw [had, at4_lit]; exact k2
  have a3 : w.cell? (at4 ad pc 3) = some (.slice none 0 0) := by rw [had, at4_lit]; exact k3
  rw [← had] at f14
  have hadb : (ad.add (pc * 4)).block < w.heap.size := by rw [had, add_lit]; exact hlb
  have H := Aside0.mk h
  have O1 := Aside0.mk o1
  have O2 := Aside0.mk o2
  have HM := Aside0.mk hM
  have HOK := Aside0.mk hok
  have HLEN := Lib.hid hlen
  have HI := Aside0.mk (And.intro i1 (And.intro i2 (And.intro i3 i4)))
  have HS1 := Lib.hid s1
  have HR := Lib.hid hr
  have HRR := Lib.hid hrr
  have HZ := Aside0.mk hz
  have HS := Aside0.mk hs
  rw [hrr, hr] at HG
  clear h hi hs hr i1 i2 i3 i4 s1 hrr hz hC CC ei o1 o2 k0 k1 k2 k3 kf had hM hok hlen
  go_enter Try.func53, Try.ntmps53
  go_wp2_with fail
  obtain ⟨w1, hw1⟩ : ∃ w1, w.alloc (.cells #[.int .i64 i.op, .int .i64 i.a] 26) = w1 := ⟨_, rfl⟩
  have hb1 : Below w.heap.size w w1 := by rw [← hw1]; exact balloc _ _
  have hbi : w1.heap[w.heap.size]? = some (.cells #[.int .i64 i.op, .int .i64 i.a] 26 (0, 0)) := by rw [← hw1]; exact blk_new _ _
  rw [hw1]
  have F1 := Aside0.mk (H.out.below hb1)
  have BI := Aside0.mk hbi
  have B1 := Aside0.mk hb1
  have CP := copied_any (B := 0) s (.slice A1 s.locals.length d1) (.slice A2 s.stack.length d2) (.slice none 0 0) w1 ((O1.out.below hb1).low (Nat.zero_le _)) ((O2.out.below hb1).low (Nat.zero_le _)) (by have := HS1.out; omega) (by omega)
  rw [HR.out] at CP
  clear hw1 hb1 hbi x0 x1 a0 a1 a2 a3 f0 f11 f12 f13 f14 f15 ff hadb
  refine CP.mono ?_
  clear CP
  rintro e w2 ⟨L1, S1, rfl, h1, h2, h3, hb2⟩
  obtain ⟨AL1, cL1, rfl⟩ := h1.slice
  obtain ⟨AS1, cS1, rfl⟩ := h2.slice
  have hb3 : Below w2.heap.size w2 (w2.alloc (.cells (runCs fb (.slice AL1 s.locals.length cL1) (.slice AS1 s.stack.length cS1) 0) 151)) := balloc _ _
  have R3 : Aside0 (RunAt w1.heap.size (w2.alloc (.cells (runCs fb (.slice AL1 s.locals.length cL1) (.slice AS1 s.stack.length cS1) 0) 151)) w2.heap.size fb ⟨s.locals, s.stack, 0⟩) := ⟨hb2.size, _, _, blk_new _ _, h1.below hb3, h2.below hb3, h3⟩
  have B3 : Aside0 (Below w1.heap.size w1 (w2.alloc (.cells (runCs fb (.slice AL1 s.locals.length cL1) (.slice AS1 s.stack.length cS1) 0) 151))) := ⟨bthen hb2 hb3⟩
  obtain ⟨y0, y1⟩ := Bx.two ⟨blk_below BI.out hb2⟩
  have hw2 : w.heap.size < w2.heap.size := by have := hb2.size; have := blk_lt BI.out; omega
  clear h1 h2 h3 hb2 hb3
  go_wp2_with fail
  refine (does_any R3.out (F1.out.env.below B3.out) (by show s.stack.length ≤ 900; omega) i HI.out.1 (by show okIns c s.locals.length i; rw [HS1.out]; exact HI.out.2.1)).mono ?_
  rintro e w4 ⟨rfl, hr4, hb4⟩
  rw [HRR.out] at hr4
  clear y0 y1 hw2
  generalize w2.heap.size = rb at *
  have B4 := Aside0.mk (B3.out.trans hb4)
  have F4 := Aside0.mk (F1.out.below B4.out)
  obtain ⟨AL, cL, AS, cS, c1, c2, c3, c4, c5, ha⟩ := hr4.arg HZ.out (by omega) (by omega)
  have ARG := Aside0.mk ha
  have R4 := Aside0.mk hr4
  have BI4 := Aside0.mk (blk_below BI.out B4.out)
  have hrb4 := hr4.lt
  obtain ⟨bi0, bi1⟩ := Bx.two ⟨BI4.out⟩
  obtain ⟨f0, f11, f14, f15, ff⟩ := F4.out.reads
  have B5 := Aside0.mk (bthen B1.out B4.out)
  clear ha hr4 hb4 R3 B3
  by_cases he : r.e = 0
  · have he1 : (r.e != 0) = false := by rw [he]; rfl
    have HE := Lib.hid he
    clear he
    by_cases hm : m.stack < (r.stack.length : Int)
    · have HR2 : Hid (goes p c m l ch pc = ⟨81, l, ch⟩) := Lib.hid (by rw [HG.out]; rw [if_neg (by rw [HE.out]; decide), if_pos hm])
      go_wp2_with fail
      go_quiet (fail)
      go_wp2
      go_ret
      rw [HR2.out]
      have hq := pw_below_drewN (Below.refl w4.heap.size w4) nq
      exact ⟨rfl, F4.out.below hq, (bthen B5.out hq).mono hsz, Keep2.of_below _ _ (bthen B5.out hq)⟩
    · go_wp2_with fail
      go_quiet (fail)
      go_wp2_with fail
      have HQ := Lib.hid hm
      have hq := pw_below_drewN (Below.refl w4.heap.size w4) nq
      obtain ⟨W5, hW5⟩ : ∃ W5, w4.drewN nq = W5 := ⟨_, rfl⟩
      rw [hW5] at hq ⊢
      have F5 := Aside0.mk (F4.out.below hq)
      have R5 := Aside0.mk (R4.out.below hq)
      have BI5 := Aside0.mk (blk_below BI4.out hq)
      have B6 := Aside0.mk (bthen B5.out hq)
      clear hW5 hq bi0 bi1 c1 c2 c3 c4 c5 f0 f11 f14 f15 ff ARG hm hrb4
      obtain ⟨bi0, bi1⟩ := Bx.two ⟨BI5.out⟩
      obtain ⟨q, hjq⟩ : ∃ q, jumps i.op = q := ⟨_, rfl⟩
      refine (jumps_is hjq W5).mono ?_
      rintro e w' ⟨rfl, rfl⟩
      have HJ := Lib.hid hjq
      clear hjq
      cases q with
      | true =>
        obtain ⟨ia0, ia1⟩ := HI.out.2.2.1 HJ.out
        obtain ⟨k, hka⟩ := Int.eq_ofNat_of_zero_le ia0
        have hkl : k < l.length := by have := HLEN.out; omega
        obtain ⟨was, hwas⟩ : ∃ was, l[k]? = some was := ⟨_, List.getElem?_eq_getElem hkl⟩
        have W5d := Below.refl W5.heap.size W5
        have R5d := R5.out.below (below_drew W5d)
        obtain ⟨AL, cL, AS, cS, c1, c2, c3, c4, c5, ha⟩ := R5d.arg HZ.out (by omega) (by omega)
        have JC := joins_any (F5.out.below (below_drew W5d)) k was hwas ⟨true, r.locals, r.stack⟩ AL AS cL cS ha rfl (fun hr => by
          have h1 := HOK.out k was hwas hr
          have h2 := HZ.out.1
          exact ⟨by show r.locals.length ≤ _; omega, by omega⟩)
        have JC := Aside0.mk JC
        have HKA := Lib.hid hka
        rw [hka] at bi1
        clear ha ia0 ia1 hka
        go_wp2_with fail
        have W5e : ∀ a, ({ heap := W5.heap, tape := W5.tape, drawn := W5.drawn + 1, os := W5.os, output := W5.output } : World).cell? a = W5.cell? a := fun _ => rfl
        have c1 : W5.cell? ⟨rb, 1, none⟩ = some (.bool true) := c1
        have c2 : W5.cell? ⟨rb, 2, none⟩ = some (.slice AL r.locals.length cL) := c2
        have c3 : W5.cell? ⟨rb, 3, none⟩ = some (.slice AS r.stack.length cS) := c3
        have c4 : W5.cell? ⟨rb, 4, none⟩ = some (.slice none 0 0) := c4
        go_still_tail 7, (by kernel_rfl)
        change wpList _ _ _ _ _ W5.drew
        clear W5e c1 c2 c3 c4 c5
        go_wp2_with fail
        refine JC.out.mono ?_
        rintro e W6 ⟨rfl, f6, b6, k6⟩
        obtain ⟨cf, cl, hcf, hcl⟩ := (F5.out.below (below_drew W5d)).blks
        have BI5' : W5.drew.heap[w.heap.size]? = some (.cells #[.int .i64 i.op, .int .i64 i.a] 26 (0, 0)) := BI5.out
        have R6 := Aside0.mk (R5d.keep2 k6 hcf hcl)
        have BI6 := Aside0.mk ((k6 _ (blk_lt BI5') (blk_differ BI5' hcf (by decide)) (blk_differ BI5' hcl (by decide))).trans BI5')
        have B7 := Aside0.mk ((B6.out.mono hsz).trans ((below_drew W5d).mono F5.out.bel.size |>.trans b6))
        have K7 := Aside0.mk (((Keep2.of_below fb lb (bthen B6.out (below_drew W5d)))).trans (Nat.le_trans B6.out.size (Nat.le_refl _)) k6)
        obtain ⟨a, ha⟩ : ∃ a, joins p m.stack l ch k ⟨true, r.locals, r.stack⟩ = a := ⟨_, rfl⟩
        have hal : a.l.length = l.length := by rw [← ha]; exact joins_len _ _ _ _ _ _
        have hao : StOk n m.stack a.l := by rw [← ha]; exact joins_ok HOK.out HZ.out.1
        rw [ha] at f6 ⊢
        have F6 := Aside0.mk f6
        have HA := Lib.hid ha
        clear f6 b6 k6 hcf hcl BI5' R5d W5d ha bi0 bi1
        by_cases hae : a.e = 0
        · have hae1 : (a.e != 0) = false := by rw [hae]; rfl
          have HAE := Lib.hid hae
          have HG6 : Hid (goes p c m l ch pc = if stops i.op then ⟨0, a.l, a.changed⟩ else joins p m.stack a.l a.changed (pc + 1) ⟨true, r.locals, r.stack⟩) := Lib.hid (by
            rw [HG.out]
            have e1 : i.a.toNat = k := by rw [HKA.out]; rfl
            have e2 : a = ⟨0, a.l, a.changed⟩ := by rw [← HAE.out]
            simp only [HE.out, HJ.out, e1, HA.out, HAE.out, if_true, ne_eq, not_true_eq_false, if_false]
            rw [if_neg (by have := HQ.out; omega)]
            conv => lhs; rw [e2])
          have HAO := Aside0.mk hao
          obtain ⟨bi0, bi1⟩ := Bx.two ⟨BI6.out⟩
          clear hae hao
          generalize a.l = l6 at *
          generalize a.changed = ch6 at *
          obtain ⟨q, hsq⟩ : ∃ q, stops i.op = q := ⟨_, rfl⟩
          have HQS := Lib.hid hsq
          clear hsq
          go_wp2_with fail
          refine (stops_is HQS W6).mono ?_
          rintro e w' ⟨rfl, rfl⟩
          cases q with
          | true =>
            have HR2 : Hid (goes p c m l ch pc = ⟨0, l6, ch6⟩) := Lib.hid (by rw [HG6.out, if_pos HQS.out])
            obtain ⟨_, _, Ah, kh, _, _, f13⟩ := F6.out.code
            rw [HM.out.nh] at f13
            clear hal
            go_wp2_with fail
            go_loopw [91] (fun s91 wr => s91 = .int .i64 0 ∧ wr = W6) (fun _ _ => 0)
            case atStart => exact ⟨rfl, rfl⟩
            case round =>
              obtain ⟨rfl, rfl⟩ := hrel
              go_wp2
              go_ret
              rw [HR2.out]
              exact ⟨rfl, F6.out, B7.out, K7.out⟩
          | false =>
            have hpc1 := HI.out.2.2.2 HQS.out
            have hpl : pc + 1 < l6.length := by have := HLEN.out; omega
            obtain ⟨was, hwas⟩ : ∃ was, l6[pc + 1]? = some was := ⟨_, List.getElem?_eq_getElem hpl⟩
            obtain ⟨AL, cL, AS, cS, c1, c2, c3, c4, c5, ha⟩ := R6.out.arg HZ.out (by omega) (by omega)
            have JC := joins_any F6.out (pc + 1) was hwas ⟨true, r.locals, r.stack⟩ AL AS cL cS ha rfl (fun hr => by
              have h1 := HAO.out (pc + 1) was hwas hr
              have h2 := HZ.out.1
              exact ⟨by show r.locals.length ≤ _; omega, by omega⟩)
            rw [show ((pc + 1 : Nat) : Int) = (pc : Int) + 1 by omega] at JC
            have JC := Aside0.mk JC
            have hp63 : (pc : Int) + 1 ≤ 9223372036854775807 := by omega
            clear ha hal
            go_wp2_with fail
            refine JC.out.mono ?_
            rintro e W8 ⟨rfl, f8, b8, k8⟩
            obtain ⟨a8, ha8⟩ : ∃ a8, joins p m.stack l6 ch6 (pc + 1) ⟨true, r.locals, r.stack⟩ = a8 := ⟨_, rfl⟩
            have HR2 : Hid (goes p c m l ch pc = a8) := Lib.hid (by rw [HG6.out, if_neg (by rw [HQS.out]; decide), ha8])
            rw [ha8] at f8 ⊢
            have F8 := Aside0.mk f8
            have B8 := Aside0.mk (B7.out.trans b8)
            have K8 := Aside0.mk (K7.out.trans B7.out.size k8)
            clear f8 b8 k8 ha8 c1 c2 c3 c4 c5 bi0 bi1
            by_cases hae : a8.e = 0
            · have hae1 : (a8.e != 0) = false := by rw [hae]; rfl
              have HAE := Lib.hid hae
              clear hae
              obtain ⟨_, _, Ah, kh, _, _, f13⟩ := F8.out.code
              rw [HM.out.nh] at f13
              go_wp2_with fail
              go_loopw [91] (fun s91 wr => s91 = .int .i64 0 ∧ wr = W8) (fun _ _ => 0)
              case atStart => exact ⟨rfl, rfl⟩
              case round =>
                obtain ⟨rfl, rfl⟩ := hrel
                go_wp2
                go_ret
                rw [HR2.out]
                exact ⟨by rw [HAE.out]; rfl, F8.out, B8.out, K8.out⟩
            · have hae1 : (a8.e != 0) = true := by rw [bne_iff_ne]; exact hae
              clear hae
              go_wp2
              go_ret
              rw [HR2.out]
              exact ⟨rfl, F8.out, B8.out, K8.out⟩
        · have hae1 : (a.e != 0) = true := by rw [bne_iff_ne]; exact hae
          have HR2 : Hid (goes p c m l ch pc = a) := Lib.hid (by
            rw [HG.out]
            have e1 : i.a.toNat = k := by rw [HKA.out]; rfl
            simp only [HE.out, HJ.out, e1, HA.out, if_true, ne_eq, not_true_eq_false, if_false, hae, not_false_eq_true]
            rw [if_neg (by have := HQ.out; omega)])
          clear hae
          go_wp2
          go_ret
          rw [HR2.out]
          exact ⟨rfl, F6.out, B7.out, K7.out⟩
      | false =>
        have HG6 : Hid (goes p c m l ch pc = if stops i.op then ⟨0, l, ch⟩ else joins p m.stack l ch (pc + 1) ⟨true, r.locals, r.stack⟩) := Lib.hid (by
          rw [HG.out]
          simp only [HE.out, HJ.out, ne_eq, not_true_eq_false, if_false, Bool.false_eq_true]
          rw [if_neg (by have := HQ.out; omega)])
        have R6 := R5
        have BI6 := BI5
        have F6 := F5
        have HAO := HOK
        have hal : l.length = l.length := rfl
        have B7 := Aside0.mk (B6.out.mono hsz)
        have K7 := Aside0.mk (Keep2.of_below fb lb B6.out)
        clear bi0 bi1
        obtain ⟨bi0, bi1⟩ := Bx.two ⟨BI6.out⟩
        obtain ⟨q, hsq⟩ : ∃ q, stops i.op = q := ⟨_, rfl⟩
        have HQS := Lib.hid hsq
        clear hsq
        go_wp2_with fail
        refine (stops_is HQS W5).mono ?_
        rintro e w' ⟨rfl, rfl⟩
        cases q with
        | true =>
          have HR2 : Hid (goes p c m l ch pc = ⟨0, l, ch⟩) := Lib.hid (by rw [HG6.out, if_pos HQS.out])
          obtain ⟨_, _, Ah, kh, _, _, f13⟩ := F6.out.code
          rw [HM.out.nh] at f13
          clear hal
          go_wp2_with fail
          go_loopw [91] (fun s91 wr => s91 = .int .i64 0 ∧ wr = W5) (fun _ _ => 0)
          case atStart => exact ⟨rfl, rfl⟩
          case round =>
            obtain ⟨rfl, rfl⟩ := hrel
            go_wp2
            go_ret
            rw [HR2.out]
            exact ⟨rfl, F6.out, B7.out, K7.out⟩
        | false =>
          have hpc1 := HI.out.2.2.2 HQS.out
          have hpl : pc + 1 < l.length := by have := HLEN.out; omega
          obtain ⟨was, hwas⟩ : ∃ was, l[pc + 1]? = some was := ⟨_, List.getElem?_eq_getElem hpl⟩
          obtain ⟨AL, cL, AS, cS, c1, c2, c3, c4, c5, ha⟩ := R6.out.arg HZ.out (by omega) (by omega)
          have JC := joins_any F6.out (pc + 1) was hwas ⟨true, r.locals, r.stack⟩ AL AS cL cS ha rfl (fun hr => by
            have h1 := HAO.out (pc + 1) was hwas hr
            have h2 := HZ.out.1
            exact ⟨by show r.locals.length ≤ _; omega, by omega⟩)
          rw [show ((pc + 1 : Nat) : Int) = (pc : Int) + 1 by omega] at JC
          have JC := Aside0.mk JC
          have hp63 : (pc : Int) + 1 ≤ 9223372036854775807 := by omega
          clear ha hal
          go_wp2_with fail
          refine JC.out.mono ?_
          rintro e W8 ⟨rfl, f8, b8, k8⟩
          obtain ⟨a8, ha8⟩ : ∃ a8, joins p m.stack l ch (pc + 1) ⟨true, r.locals, r.stack⟩ = a8 := ⟨_, rfl⟩
          have HR2 : Hid (goes p c m l ch pc = a8) := Lib.hid (by rw [HG6.out, if_neg (by rw [HQS.out]; decide), ha8])
          rw [ha8] at f8 ⊢
          have F8 := Aside0.mk f8
          have B8 := Aside0.mk (B7.out.trans b8)
          have K8 := Aside0.mk (K7.out.trans B7.out.size k8)
          clear f8 b8 k8 ha8 c1 c2 c3 c4 c5 bi0 bi1
          by_cases hae : a8.e = 0
          · have hae1 : (a8.e != 0) = false := by rw [hae]; rfl
            have HAE := Lib.hid hae
            clear hae
            obtain ⟨_, _, Ah, kh, _, _, f13⟩ := F8.out.code
            rw [HM.out.nh] at f13
            go_wp2_with fail
            go_loopw [91] (fun s91 wr => s91 = .int .i64 0 ∧ wr = W8) (fun _ _ => 0)
            case atStart => exact ⟨rfl, rfl⟩
            case round =>
              obtain ⟨rfl, rfl⟩ := hrel
              go_wp2
              go_ret
              rw [HR2.out]
              exact ⟨by rw [HAE.out]; rfl, F8.out, B8.out, K8.out⟩
          · have hae1 : (a8.e != 0) = true := by rw [bne_iff_ne]; exact hae
            clear hae
            go_wp2
            go_ret
            rw [HR2.out]
            exact ⟨rfl, F8.out, B8.out, K8.out⟩
  · have he1 : (r.e != 0) = true := by rw [bne_iff_ne]; exact he
    have HR2 : Hid (goes p c m l ch pc = ⟨r.e, l, ch⟩) := Lib.hid (by rw [HG.out]; rw [if_pos he])
    clear he
    go_wp2
    go_ret
    rw [HR2.out]
    exact ⟨rfl, F4.out, B5.out.mono hsz, Keep2.of_below _ _ B5.out⟩
end Go.Proofs.Ytpdjkclacbgneaa
