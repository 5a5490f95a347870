/- loomlaw9: of, good, known. -/
import Derived.Test.YtpdjkclacbgneaaKB
import Derived.Test.YtpdjkclacbgneaaLw2
set_option linter.unusedVariables false
set_option linter.unusedSimpArgs false
namespace Go.Proofs.Ytpdjkclacbgneaa
open Go.RowKit Go.Shelf Go.Proofs.YtpdjkclacbgneaaW.PrintWords Go.Proofs.Ytpdjkclacbgneaa.Pl

set_option maxHeartbeats 400000 in
set_option maxRecDepth 10000 in
theorem intsEq_any (l m : List Int) (A B : Option Addr) (c d : Nat) (w : World) (hl : (Kd.int .i64).C w A l.length l) (hm : (Kd.int .i64).C w B m.length m) :
    Calls Try.prog 46 #[.slice A l.length c, .slice B m.length d] w fun e w' => e = .returned (.bool (decide (l = m))) ∧ Below w.heap.size w w' := by
  have CL := cells_int hl
  have CM := cells_int hm
  clear hl hm
  by_cases hn : l.length = m.length
  rotate_left
  · have hu : decide (l = m) = false := decide_eq_false fun e => hn (by rw [e])
    rw [hu]
    have hz : ((l.length : Int) == (m.length : Int)) = false := by rw [beq_eq_false_iff_ne]; omega
    have hz2 : (l.length == m.length) = false := by rw [beq_eq_false_iff_ne]; exact hn
    clear hu
    go_enter Try.func46, Try.ntmps46
    go_wp2
    go_ret
    exact ⟨rfl, Below.refl _ _⟩
  obtain ⟨n, hl⟩ : ∃ n, l.length = n := ⟨_, rfl⟩
  have hm : m.length = n := by omega
  rw [hl] at CL ⊢
  rw [hm] at CM ⊢
  have HL := Lib.hid hl
  have HM := Lib.hid hm
  clear hn hl hm
  have hmax := CL.1
  obtain ⟨q, hq⟩ : ∃ q, decide (l = m) = q := ⟨_, rfl⟩
  rw [hq]
  have HQ := Lib.hid hq
  clear hq
  go_enter Try.func46, Try.ntmps46
  go_wp2
  go_loopw [5] (fun s13 wr => ∃ kk : Nat, kk ≤ n ∧ s13 = .int .i64 kk ∧ Aside0 (Below w.heap.size w wr) ∧ Aside0 (∀ j x y, j < kk → l[j]? = some x → m[j]? = some y → x = y)) (fun s _ => n - (intOf s).toNat)
  case atStart => exact ⟨0, Nat.zero_le _, rfl, ⟨Below.refl _ _⟩, ⟨fun j _ _ hj => absurd hj (Nat.not_lt_zero _)⟩⟩
  case round =>
    obtain ⟨kk, hkk, rfl, BW, HE⟩ := hrel
    by_cases hlt : kk < n
    · have hltz : (kk : Int) < (n : Int) := by omega
      have CW := CL.below BW.out
      have DW := CM.below BW.out
      obtain ⟨ad, rfl, had⟩ := CW.2 (by omega)
      obtain ⟨ae, rfl, had2⟩ := DW.2 (by omega)
      clear had had2
      generalize hx : l.getD kk 0 = x
      generalize hy : m.getD kk 0 = y
      have HX : Aside0 (l[kk]? = some x) := ⟨by rw [← hx, List.getD_eq_getElem?_getD, List.getElem?_eq_getElem (by have := HL.out; omega)]; rfl⟩
      have HY : Aside0 (m[kk]? = some y) := ⟨by rw [← hy, List.getD_eq_getElem?_getD, List.getElem?_eq_getElem (by have := HM.out; omega)]; rfl⟩
      have l0 := CW.one hlt (v := .int .i64 x) (by rw [← hx])
      have m0 := DW.one hlt (v := .int .i64 y) (by rw [← hy])
      clear hx hy
      by_cases hxy : x = y
      · have HE2 : Aside0 (∀ j x y, j < kk + 1 → l[j]? = some x → m[j]? = some y → x = y) := ⟨fun j a b hj ha hb => by
          rcases Nat.lt_succ_iff_lt_or_eq.1 hj with h | h
          · exact HE.out j a b h ha hb
          · subst h
            rw [HX.out] at ha
            rw [HY.out] at hb
            cases ha
            cases hb
            exact hxy⟩
        have hq : (x == y) = true := by rw [hxy]; simp
        have hq2 : (x != y) = false := by rw [hxy]; simp
        clear hxy
        go_wp2_with fail
        go_quiet (fail)
        go_wp2
        go_roundw
        case rel => exact ⟨kk + 1, by omega, by go_num, ⟨pw_below_drewN BW.out _⟩, HE2⟩
        case measure => simp [intOf]; omega
      · have HR : Hid (q = false) := Lib.hid (by
          rw [← HQ.out]
          refine decide_eq_false fun e => hxy ?_
          have h1 := HX.out
          rw [e, HY.out] at h1
          cases h1
          rfl)
        have hq : (x == y) = false := by rw [beq_eq_false_iff_ne]; exact hxy
        have hq2 : (x != y) = true := by rw [bne_iff_ne]; exact hxy
        clear hxy
        go_wp2_with fail
        go_quiet (fail)
        go_wp2
        go_ret
        exact ⟨by rw [HR.out]; rfl, pw_below_drewN BW.out _⟩
    · have hltz : ¬ (kk : Int) < (n : Int) := by omega
      have HR : Hid (q = true) := Lib.hid (by
        rw [← HQ.out]
        exact decide_eq_true (decide_list (by rw [HL.out, HM.out]) (fun j x y hx hy => HE.out j x y (by have := (List.getElem?_eq_some_iff.1 hx).1; have := HL.out; omega) hx hy)))
      go_wp2
      go_ret
      exact ⟨by rw [HR.out]; rfl, BW.out⟩
/-- A Main of some code, with so many locals, so high a stack. -/
def ofG (loc stk : Int) (code : List In) (pool : List Cn) : List Cl := [⟨nMain, nil, pool, [], [⟨nmain, [], ⟨0, nil⟩, loc, stk, code, []⟩]⟩]
theorem mt_mainG {w : World} {loc stk : Int} {code : List In} {A : Option Addr} {c : Nat} (hc : code.length ≤ c) (h : inK.C w A code.length code) : mtK.K w ⟨nmain, [], ⟨0, nil⟩, loc, stk, code, []⟩ [.string nmain, .slice none 0 0, .int .i64 0, .string nil, .int .i64 loc, .int .i64 stk, .slice A code.length c, .slice none 0 0] :=
  ⟨[.string nmain], _, rfl, rfl, [.slice none 0 0], _, rfl, ⟨none, 0, rfl, Nat.le_refl _, row_none _ w⟩, [.int .i64 0, .string nil], _, rfl, tyK_cs w ⟨0, nil⟩, [.int .i64 loc], _, rfl, rfl, [.int .i64 stk], _, rfl, rfl, [.slice A code.length c], [.slice none 0 0], rfl, ⟨A, c, rfl, hc, h⟩, ⟨none, 0, rfl, Nat.le_refl _, row_none _ w⟩⟩
theorem cl_mainG {w : World} {loc stk : Int} {code : List In} {pool : List Cn} {A P : Option Addr} {c d g : Nat} (hc : code.length ≤ c) (h : inK.C w A code.length code) (hd : pool.length ≤ d) (hp : cnK.C w P pool.length pool)
    (hm : w.heap[g]? = some (.cells #[.string nmain, .slice none 0 0, .int .i64 0, .string nil, .int .i64 loc, .int .i64 stk, .slice A code.length c, .slice none 0 0] 66 (0, 0))) :
    clK.K w ⟨nMain, nil, pool, [], [⟨nmain, [], ⟨0, nil⟩, loc, stk, code, []⟩]⟩ [.string nMain, .string nil, .slice P pool.length d, .slice none 0 0, .slice (some ⟨g, 0, none⟩) 1 1] :=
  ⟨[.string nMain], _, rfl, rfl, [.string nil], _, rfl, rfl, [.slice P pool.length d], _, rfl, ⟨P, d, rfl, hd, hp⟩, [.slice none 0 0], [.slice (some ⟨g, 0, none⟩) 1 1], rfl, ⟨none, 0, rfl, Nat.le_refl _, row_none _ w⟩, ⟨some ⟨g, 0, none⟩, 1, rfl, Nat.le_refl _, row_one mtK hm (mt_mainG hc h)⟩⟩
/-- The cells of a Main, just laid. -/
theorem rows_mainG {w : World} {loc stk : Int} {code : List In} {pool : List Cn} {A P : Option Addr} {c d : Nat} (hc : code.length ≤ c) (h : inK.C w A code.length code) (hd : pool.length ≤ d) (hp : cnK.C w P pool.length pool) :
    clK.C ((w.alloc (.cells #[.string nmain, .slice none 0 0, .int .i64 0, .string nil, .int .i64 loc, .int .i64 stk, .slice A code.length c, .slice none 0 0] 66)).alloc (.cells #[.string nMain, .string nil, .slice P pool.length d, .slice none 0 0, .slice (some ⟨w.heap.size, 0, none⟩) 1 1] 72)) (some ⟨w.heap.size + 1, 0, none⟩) 1 (ofG loc stk code pool) := by
  have hb := bthen (balloc w (.cells #[.string nmain, .slice none 0 0, .int .i64 0, .string nil, .int .i64 loc, .int .i64 stk, .slice A code.length c, .slice none 0 0] 66)) (balloc _ (.cells #[.string nMain, .string nil, .slice P pool.length d, .slice none 0 0, .slice (some ⟨w.heap.size, 0, none⟩) 1 1] 72))
  exact row_one clK (cs := [.string nMain, .string nil, .slice P pool.length d, .slice none 0 0, .slice (some ⟨w.heap.size, 0, none⟩) 1 1]) (blk_second w _ _) (cl_mainG hc (Kd.C_below h hb) hd (Kd.C_below hp hb) (blk_alloc (blk_new w _) _))
set_option maxRecDepth 10000 in
set_option maxHeartbeats 400000 in
theorem of9_any (code : List In) (A : Option Addr) (c : Nat) (w : World) (hc : code.length ≤ c) (h : inK.C w A code.length code) :
    Calls Try.prog 44 #[.slice A code.length c] w fun e w' => ∃ B, e = .returned (.slice B 1 1) ∧ clK.C w' B 1 (ofG 1 1 code []) ∧ Below w.heap.size w w' := by
  have H := Aside0.mk h
  have HC := Lib.hid hc
  clear h hc
  go_enter Try.func44, Try.ntmps44
  go_wp2
  go_ret
  exact ⟨_, rfl, rows_mainG (pool := []) (P := none) (d := 0) HC.out H.out (Nat.le_refl _) (row_none _ _), bthen (balloc _ _) (balloc _ _)⟩
theorem link_mainG (loc stk : Int) (code : List In) (pool : List Cn) (B : Option Addr) (w : World) (hC : clK.C w B 1 (ofG loc stk code pool)) (hk : ∀ x, x ∈ pool → x.kind < 3) : Calls Try.prog 18 #[.slice B 1 1] w fun e w' => ∃ pp, e = .returned (.tuple #[.pointer pp, .int .i64 (Pl.link (ofG loc stk code pool)).1]) ∧ ((Pl.link (ofG loc stk code pool)).1 = 0 → ∃ pb, pp = some ⟨pb, 0, none⟩ ∧ ProgIs w' pb (Pl.link (ofG loc stk code pool)).2) ∧ Below w.heap.size w w' := by
  refine (link_any (ofG loc stk code pool) B 1 w hC (by show 1 ≤ 900; decide) ?_).mono ?_
  · rintro ⟨c1, hc1, x, hx, h3⟩
    rw [ofG, List.mem_singleton] at hc1
    subst hc1
    have := hk x hx
    omega
  · rintro e w' ⟨pp, h1, h2, _, h4⟩
    exact ⟨pp, h1, h2, h4⟩
/-- Instructions appended to a row of the call's own: made ahead. -/
theorem app_lit {B : Nat} {W : World} {v : Value} {l : List In} (l2 : List In) (h : OwnIn B W v l) (hB : B ≤ W.heap.size) (hl : l.length + l2.length ≤ 1000) :
    ∃ v1 w1, (Builtin.append_ #[24, 24] 24 #[v, .slice (some ⟨W.heap.size, 0, none⟩) l2.length l2.length]).run Try.prog (W.alloc (.cells (fli l2).toArray 26)) = .ok v1 w1 ∧ OwnIn B w1 v1 (l ++ l2) ∧ Below B W w1 ∧ W.grownBy w1 v.ownBlock := by
  obtain ⟨i0, hi, hzz⟩ := Option.map_eq_some_iff.1 inInfo
  simp only [Prod.mk.injEq] at hzz
  obtain ⟨hz0, hz1, hz2⟩ := hzz
  have hb := balloc W (.cells (fli l2).toArray 26)
  have hst : Try.prog.underlying 24 = some (.slice 26) := Try.underlying24
  obtain ⟨v1, w1, hrun, h2, hg, _, hat⟩ := run_append_own_at (P := Try.prog) (w := W.alloc (.cells (fli l2).toArray 26)) B 24 24 26 i0 (.agg #[.int .i64 0, .int .i64 0]) 2 16 hst hi hz0 hz1 hz2 rfl (by decide) v l.length (fli l) (h.below hb) ⟨W.heap.size, 0, none⟩ l2.length l2.length (fli l2) (fli_len l2)
    (World.news_of_block (blk_new W _)) (fun u hu => by
      simp only [fli, List.mem_flatMap] at hu
      obtain ⟨x, _, hx⟩ := hu
      simp only [inCs, List.mem_cons, List.not_mem_nil, or_false] at hx
      rcases hx with rfl | rfl <;> rfl) (by simp only [maxLen]; omega) (by omega) (Nat.le_trans hB hb.size)
  refine ⟨v1, w1, hrun, ?_, pw_below_grown (hb.mono hB) _ (Nat.le_trans hB hb.size) hg (fun k hk => own_base h k hk), World.grownBy.trans (World.grownBy_alloc W _ _) hg⟩
  unfold OwnIn
  rw [fli_app, List.length_append]
  exact h2
theorem OwnIn.empty (W : World) (B : Nat) (hB : B ≤ W.heap.size) : OwnIn B (W.alloc (.cells #[] 26)) (.slice (some ⟨W.heap.size, 0, none⟩) 0 0) [] :=
  ⟨rfl, .inr ⟨W.heap.size, 0, #[], rfl, hB, blk_new _ _, Nat.le_refl _, by unfold maxLen; omega, rfl, rfl⟩⟩
/-! ### good -/
def preN : Nat → List In
  | 0 => []
  | k + 1 => preN k ++ [⟨4, 0⟩, ⟨5, (k : Int) + 1⟩]
theorem preN_len : ∀ k, (preN k).length = 2 * k
  | 0 => rfl
  | k + 1 => by rw [preN, List.length_append, preN_len k]; simp; omega
def shiftK (x : In) : In := if x.op = 22 ∨ x.op = 23 then ⟨x.op, x.a + 14⟩ else x
def goodC (code : List In) : List In := preN 7 ++ code.map shiftK ++ [⟨33, 0⟩]
def poolK : List Cn := [⟨1, 0, 0, 0, nil, nil⟩]
/-- What good answers; none: more rounds than so many. -/
def accG (loc stk : Int) (code : List In) (pool : List Cn) (k : Nat) : Option (Bool × Bool) :=
  if (Pl.link (ofG loc stk code pool)).1 ≠ 0 then some (false, false) else
  match lall (Pl.link (ofG loc stk code pool)).2 k with
  | none => none
  | some e => some (e == 0, true)
theorem cnK_c1 (w : World) (c : Cn) : cnK.K w c (cnCs c) := ⟨[.int .i64 c.kind], _, rfl, rfl, [.int .i64 c.int], _, rfl, rfl, [.complex .f64 c.re c.im], _, rfl, rfl, [.string c.cls], [.string c.name], rfl, rfl, rfl⟩
theorem set_new (w : World) (a b c : Value) {t : TypeId} : (w.alloc (.cells #[a, b] t)).setCell ⟨w.heap.size, 1, none⟩ c = w.alloc (.cells #[a, c] t) := by
  have h := blk_new w (.cells #[a, b] t)
  unfold World.setCell
  simp only [World.alloc] at h ⊢
  congr 1
  apply Array.ext_getElem?
  intro i
  rw [Array.getElem?_modify]
  by_cases hi : i = w.heap.size
  · subst hi
    simp
  · rw [if_neg (fun e => hi e.symm), Array.getElem?_push, Array.getElem?_push, if_neg hi, if_neg hi]
set_option maxRecDepth 100000 in
set_option maxHeartbeats 2000000 in
theorem good_any (code : List In) (A : Option Addr) (c : Nat) (w : World) (hc : code.length ≤ c) (h : inK.C w A code.length code) (hl : code.length ≤ 100) (hr : ∀ x, x ∈ code → -1000 ≤ x.a ∧ x.a ≤ 1000)
    (q : Bool × Bool) (hacc : accG 8 2 (goodC code) poolK 100 = some q) (hok : (Pl.link (ofG 8 2 (goodC code) poolK)).1 = 0 → AllOk (Pl.link (ofG 8 2 (goodC code) poolK)).2 ∧ 0 < (Pl.link (ofG 8 2 (goodC code) poolK)).2.h.length) :
    Calls Try.prog 24 #[.slice A code.length c] w fun e w' => e = .returned (.tuple #[.bool q.1, .bool q.2]) ∧ Below w.heap.size w w' := by
  have CC := cells_in h
  have HACC := Aside0.mk hacc
  have HOK := Aside0.mk hok
  have HR := Aside0.mk hr
  have HL := Lib.hid hl
  obtain ⟨n, hn⟩ : ∃ n, code.length = n := ⟨_, rfl⟩
  rw [hn] at CC ⊢
  have HN := Lib.hid hn
  clear h hacc hok hr hl hn hc
  have hmax := CC.1
  go_enter Try.func24, Try.ntmps24
  go_wp2_with fail
  go_loopw [4, 5] (fun s4 s5 wr => ∃ kk : Nat, kk ≤ 7 ∧ s5 = .int .i64 ((kk : Int) + 1) ∧ Aside0 (OwnIn w.heap.size wr s4 (preN kk)) ∧ Aside0 (Below w.heap.size w wr)) (fun _ s5 _ => 8 - (intOf s5).toNat)
  case atStart => exact ⟨0, Nat.zero_le _, rfl, ⟨OwnIn.empty w _ (Nat.le_refl _)⟩, ⟨balloc _ _⟩⟩
  case round =>
    obtain ⟨kk, hk, rfl, HO, BW⟩ := hrel
    by_cases hlt : kk < 7
    · have hltz : (kk : Int) + 1 < 8 := by omega
      obtain ⟨v1, w2, E1, h2, h3, hgr⟩ := app_lit [⟨4, 0⟩, ⟨5, (kk : Int) + 1⟩] HO.out BW.out.size (by rw [preN_len]; simp; omega)
      have H2 := Aside0.mk h2
      have B2 := Aside0.mk (BW.out.trans h3)
      have HLT := Lib.hid hlt
      clear h2 h3 hgr hlt
      go_wp2_with (at_builtin; refine wpList_append_E rfl _ _ _ rfl rfl rfl E1 ?_)
      clear E1
      go_wp2
      go_roundw
      case rel => exact ⟨kk + 1, HLT.out, by go_num, H2, B2⟩
      case measure => have := HLT.out; simp [intOf]; omega
    · have hk7 : kk = 7 := by omega
      subst hk7
      have hltz : ¬ ((7 : Nat) : Int) + 1 < 8 := by omega
      obtain ⟨A0, c0, rfl⟩ := own_slice HO.out
      rw [preN_len]
      have HO1 := HO
      have BW1 := BW
      rw [preN_len] at HO1
      clear HO BW hk hlt
      go_wp2_with fail
      obtain ⟨wo, hwo⟩ : ∃ wo : World, wo = wr := ⟨_, rfl⟩
      rw [← hwo] at HO1 BW1
      go_loopw [4, 7] (fun s4 s7 wr => ∃ jj : Nat, jj ≤ n ∧ s7 = .int .i64 jj ∧ Aside0 (OwnIn w.heap.size wr s4 (preN 7 ++ (code.take jj).map shiftK)) ∧ Aside0 (Below w.heap.size w wr)) (fun _ s7 _ => n - (intOf s7).toNat)
      case atStart => exact ⟨0, Nat.zero_le _, rfl, by rw [← hwo]; simpa [OwnIn, preN_len] using HO1, by rw [← hwo]; exact BW1⟩
      case round =>
        clear hwo HO1 BW1
        obtain ⟨jj, hj, rfl, HO, BW⟩ := hrel
        by_cases hlt : jj < n
        · have hltz : (jj : Int) < (n : Int) := by omega
          have hj0 : (0 : Int) ≤ (jj : Int) := by omega
          have CW := CC.below BW.out
          obtain ⟨ad, rfl, _⟩ := CW.2 (by omega)
          obtain ⟨x, hx⟩ : ∃ x, code[jj]? = some x := ⟨_, List.getElem?_eq_getElem (by have := HN.out; omega)⟩
          have ex : code.getD jj default = x := by rw [List.getD_eq_getElem?_getD, hx]; rfl
          have l0 := CW.at0 hlt (v := .int .i64 x.op) (by rw [ex]; rfl)
          have l1 := CW.at_ (i := 1) hlt (by decide) (v := .int .i64 x.a) (by rw [ex]; rfl)
          obtain ⟨hr1, hr2⟩ := HR.out x (List.mem_of_getElem? hx)
          have htk : (code.take (jj + 1)).map shiftK = (code.take jj).map shiftK ++ [shiftK x] := by rw [List.take_add_one, hx, List.map_append]; rfl
          have HTK := Lib.hid htk
          have HLT := Lib.hid hlt
          have hsz : (preN 7 ++ (code.take jj).map shiftK).length + 1 ≤ 1000 := by
            have h1 := HL.out
            rw [List.length_append, preN_len, List.length_map, List.length_take]
            omega
          obtain ⟨W1, hW1⟩ : ∃ W1, wr.alloc (.cells #[.int .i64 (shiftK x).op, .int .i64 (shiftK x).a] 26) = W1 := ⟨_, rfl⟩
          have hb1 : Below wr.heap.size wr W1 := by rw [← hW1]; exact balloc _ _
          have BW1 := BW.out.trans (hb1.mono BW.out.size)
          obtain ⟨p0, p1⟩ := Bx.two ⟨(by rw [← hW1]; exact blk_new _ _ : W1.heap[wr.heap.size]? = some (.cells #[.int .i64 (shiftK x).op, .int .i64 (shiftK x).a] 26 (0, 0)))⟩
          obtain ⟨v1, w2, E1, h2, h3, hgr⟩ := app_lit [shiftK x] (HO.out.below hb1) BW1.size hsz
          rw [List.append_assoc, ← htk] at h2
          have H2 := Aside0.mk h2
          have B2 := Aside0.mk (BW1.trans h3)
          have E1 : (Builtin.append_ #[24, 24] 24 #[_, .slice (some ⟨W1.heap.size, 0, none⟩) 1 1]).run Try.prog (W1.alloc (.cells #[.int .i64 (shiftK x).op, .int .i64 (shiftK x).a] 26)) = .ok v1 w2 := E1
          clear h2 h3 hgr hlt htk hx ex hsz BW1 hb1
          by_cases hg : x.op = 22 ∨ x.op = 23
          · have hs : shiftK x = ⟨x.op, x.a + 14⟩ := if_pos hg
            rw [hs] at E1 hW1 p0 p1
            simp only at E1 hW1 p0 p1
            have hW2 : (wr.alloc (.cells #[.int .i64 x.op, .int .i64 x.a] 26)).setCell ⟨wr.heap.size, 1, none⟩ (.int .i64 (x.a + 14)) = W1 := by
              rw [← hW1]
              exact set_new wr _ _ _
            clear hW1 hs
            obtain ⟨op, a⟩ := x
            simp only at hg l0 l1 hr1 hr2 hW2 E1 p0 p1
            rcases hg with rfl | rfl
            all_goals
              go_wp2_with (at_builtin; refine wpList_append_E rfl _ _ _ rfl rfl rfl E1 ?_)
              clear E1
              go_wp2
              go_roundw
              case rel => exact ⟨jj + 1, HLT.out, by go_num, H2, B2⟩
              case measure => have := HLT.out; simp [intOf]; omega
          · have hs : shiftK x = x := if_neg hg
            rw [hs] at E1 hW1 p0 p1
            have e22 : (x.op == 22) = false := by rw [beq_eq_false_iff_ne]; exact fun h => hg (.inl h)
            have e23 : (x.op == 23) = false := by rw [beq_eq_false_iff_ne]; exact fun h => hg (.inr h)
            clear hg hs
            go_wp2_with (at_builtin; refine wpList_append_E rfl _ _ _ rfl rfl rfl E1 ?_)
            clear E1
            go_wp2
            go_roundw
            case rel => exact ⟨jj + 1, HLT.out, by go_num, H2, B2⟩
            case measure => have := HLT.out; simp [intOf]; omega
        · have hltz : ¬ (jj : Int) < (n : Int) := by omega
          have hjn : jj = n := by omega
          have hO := HO.out
          rw [hjn, List.take_of_length_le (by have := HN.out; omega)] at hO
          have hb1 := balloc wr (.cells (cnCs ⟨1, 0, 0, 0, nil, nil⟩).toArray 32)
          obtain ⟨v1, w2, E1, h2, h3, hgr⟩ := app_lit [⟨33, 0⟩] (hO.below hb1) (Nat.le_trans BW.out.size hb1.size) (by
            have h1 := HL.out
            rw [List.length_append, preN_len, List.length_map]
            simp
            omega)
          have hgc : preN 7 ++ code.map shiftK ++ [⟨33, 0⟩] = goodC code := rfl
          rw [hgc] at h2
          obtain ⟨A2, c2, rfl, hc2, hC2⟩ := h2.reads
          have hcb := blk_new wr (.cells (cnCs ⟨1, 0, 0, 0, nil, nil⟩).toArray 32)
          have hp : cnK.C w2 (some ⟨wr.heap.size, 0, none⟩) poolK.length poolK := row_one cnK (cs := cnCs ⟨1, 0, 0, 0, nil, nil⟩) (blk_grown hcb hgr (own_ne (hO.below hb1) hcb (by decide))) (cnK_c1 _ _)
          obtain ⟨r, hrr⟩ : ∃ r, Pl.link (ofG 8 2 (goodC code) poolK) = r := ⟨_, rfl⟩
          have hC3 := rows_mainG (loc := 8) (stk := 2) hc2 hC2 (d := 1) (Nat.le_refl _) hp
          have LK := link_mainG 8 2 (goodC code) poolK _ _ hC3 (fun x hx => by
            rw [poolK, List.mem_singleton] at hx
            subst hx
            show (1 : Int) < 3
            decide)
          have hacc := HACC.out
          have hok := HOK.out
          unfold accG at hacc
          rw [hrr] at LK hacc hok
          rw [show poolK.length = 1 from rfl] at LK
          have B2 := Aside0.mk (BW.out.trans ((hb1.mono BW.out.size).trans h3))
          have hBw2 := Lib.hid (B2.out.size)
          have E1 : (Builtin.append_ #[24, 24] 24 #[u4, .slice (some ⟨wr.heap.size + 1, 0, none⟩) 1 1]).run Try.prog ((wr.alloc (.cells (cnCs ⟨1, 0, 0, 0, nil, nil⟩).toArray 32)).alloc (.cells #[.int .i64 33, .int .i64 0] 26)) = .ok (.slice A2 (goodC code).length c2) w2 := by
            have := E1
            rw [World.size_alloc] at this
            exact this
          have B4 := Aside0.mk (bthen (balloc w2 (.cells #[.string nmain, .slice none 0 0, .int .i64 0, .string nil, .int .i64 8, .int .i64 2, .slice A2 (goodC code).length c2, .slice none 0 0] 66)) (balloc _ (.cells #[.string nMain, .string nil, .slice (some ⟨wr.heap.size, 0, none⟩) 1 1, .slice none 0 0, .slice (some ⟨w2.heap.size, 0, none⟩) 1 1] 72)))
          have LK := Aside0.mk LK
          obtain ⟨ng, hng⟩ : ∃ ng, (goodC code).length = ng := ⟨_, rfl⟩
          rw [hng] at LK E1 B4
          have HACC2 := Aside0.mk hacc
          have HOK2 := Aside0.mk hok
          clear hO hb1 h2 h3 hgr hC2 hcb hp hC3 hrr hacc hok hgc hc2 hlt hj HO BW hng hjn HACC HOK
          go_wp2_with (at_builtin; refine wpList_append_E rfl _ _ _ rfl rfl rfl E1 ?_)
          refine LK.out.mono ?_
          rintro e2 w3 ⟨pp, rfl, h0, hb3⟩
          have B5 := Aside0.mk (bthen B4.out hb3)
          have hacc := HACC2.out
          have hok := HOK2.out
          clear hb3
          have B6 := Aside0.mk (bthen B2.out B5.out)
          by_cases hz : r.1 = 0
          · rw [if_neg (by rw [hz]; decide)] at hacc
            obtain ⟨pb, rfl, hp⟩ := h0 hz
            obtain ⟨ha, hlh⟩ := hok hz
            split at hacc
            · cases hacc
            · rename_i e hv
              simp only [Option.some.injEq] at hacc
              have VA := Aside0.mk (lall_any w3 pb r.2 hp ha hlh 100 e hv)
              have hz1 : (r.1 != 0) = false := by rw [hz]; rfl
              have HQ := Lib.hid hacc
              clear hacc hok h0 hz hv ha hlh hp
              go_wp2_with fail
              refine VA.out.mono ?_
              rintro e3 w4 ⟨rfl, hb4⟩
              go_wp2
              go_ret2
              exact ⟨by rw [← HQ.out]; rfl, bthen B6.out hb4⟩
          · have hz1 : (r.1 != 0) = true := by rw [bne_iff_ne]; exact hz
            rw [if_pos hz] at hacc
            simp only [Option.some.injEq] at hacc
            have HQ := Lib.hid hacc
            clear hacc hok h0 hz
            go_wp2
            go_ret2
            exact ⟨by rw [← HQ.out]; rfl, B6.out⟩
/-- All that a law asks of one code. -/
def goodOk (code : List In) (q : Bool × Bool) : Bool := decide (accG 8 2 (goodC code) poolK 100 = some q) && (decide ((Pl.link (ofG 8 2 (goodC code) poolK)).1 ≠ 0) || okB (Pl.link (ofG 8 2 (goodC code) poolK)).2) && code.all (fun x => decide (-1000 ≤ x.a ∧ x.a ≤ 1000))
theorem good_is {code : List In} {q : Bool × Bool} (ho : goodOk code q = true) (hl : code.length ≤ 100) {B : Nat} {v : Value} {w : World} (h : OwnIn B w v code) :
    Calls Try.prog 24 #[v] w fun e w' => e = .returned (.tuple #[.bool q.1, .bool q.2]) ∧ Below w.heap.size w w' := by
  obtain ⟨A, c, rfl, hc, hC⟩ := h.reads
  simp only [goodOk, Bool.and_eq_true, decide_eq_true_eq, Bool.or_eq_true, List.all_eq_true] at ho
  obtain ⟨⟨h1, h2⟩, h3⟩ := ho
  exact good_any code A c w hc hC hl h3 q h1 (fun h0 => okB_all (h2.resolve_left (fun h => h h0)))


def codeP : List In := [⟨38, 0⟩, ⟨39, 0⟩, ⟨33, 0⟩]
def codeQ : List In := [⟨38, 0⟩, ⟨33, 0⟩]
def pP : Pg := (Pl.link (ofG 1 1 codeP [])).2
def pQ : Pg := (Pl.link (ofG 1 1 codeQ [])).2
def mP : Mt := ⟨nmain, [], ⟨0, nil⟩, 1, 1, codeP, []⟩
def mQ : Mt := ⟨nmain, [], ⟨0, nil⟩, 1, 1, codeQ, []⟩
theorem linkP : (Pl.link (ofG 1 1 codeP [])).1 = 0 := by decide +kernel
theorem linkQ : (Pl.link (ofG 1 1 codeQ [])).1 = 0 := by decide +kernel
theorem okP : okB pP = true := by decide +kernel
theorem okQ : okB pQ = true := by decide +kernel
theorem findP : (clsOf pP nMain).methods.find? (fun m => decide (m.name = nmain)) = some mP := by decide +kernel
theorem findQ : (clsOf pQ nMain).methods.find? (fun m => decide (m.name = nmain)) = some mQ := by decide +kernel
theorem lmP : lmethod pP 100 nMain nmain = some (0, [[], [0], []]) := by decide +kernel
theorem lmQ : lmethod pQ 100 nMain nmain = some (90, []) := by decide +kernel
theorem allQ : lall pQ 100 = some 90 := by decide +kernel
theorem made9_any (code : List In) (w : World) (hl : code.length ≤ 1000) : Calls Try.prog 44 #[.slice (some ⟨w.heap.size, 0, none⟩) code.length code.length] (w.alloc (.cells (fli code).toArray 26)) fun e w' => ∃ B, e = .returned (.slice B 1 1) ∧ clK.C w' B 1 (ofG 1 1 code []) ∧ Below w.heap.size w w' := by
  obtain ⟨A, c, hv, hc, hC⟩ := (OwnIn.lit w w.heap.size code hl (Nat.le_refl _)).reads
  cases hv
  refine (of9_any code _ _ _ hc hC).mono ?_
  rintro e w' ⟨B, h1, h2, h3⟩
  exact ⟨B, h1, h2, bthen (balloc _ _) h3⟩
theorem linked9_any (code : List In) (B : Option Addr) (w : World) (hC : clK.C w B 1 (ofG 1 1 code [])) (h0 : (Pl.link (ofG 1 1 code [])).1 = 0) : Calls Try.prog 18 #[.slice B 1 1] w fun e w' => ∃ pb, e = .returned (.tuple #[.pointer (some ⟨pb, 0, none⟩), .int .i64 0]) ∧ ProgIs w' pb (Pl.link (ofG 1 1 code [])).2 ∧ Below w.heap.size w w' := by
  refine (link_mainG 1 1 code [] B w hC (fun x hx => absurd hx List.not_mem_nil)).mono ?_
  rintro e w' ⟨pp, h1, h2, h4⟩
  obtain ⟨pb, rfl, hp⟩ := h2 h0
  exact ⟨pb, by rw [h1, h0], hp, h4⟩
set_option maxRecDepth 100000 in
set_option maxHeartbeats 1000000 in
theorem known9_any (w : World) : Calls Try.prog 23 #[] w fun e w' => e = .returned (.bool true) ∧ Below w.heap.size w w' := by
  go_enter Try.func23, Try.ntmps23
  go_wp2_with fail
  refine (made9_any codeP w (by decide)).mono ?_
  rintro e1 w1 ⟨B1, rfl, hC, hb1⟩
  have LA := Aside0.mk (linked9_any codeP B1 w1 hC linkP)
  have B1 := Aside0.mk hb1
  clear hC hb1
  go_wp2_with fail
  refine LA.out.mono ?_
  rintro e2 w2 ⟨pb, rfl, hp, hb2⟩
  have B2 := Aside0.mk (bthen B1.out hb2)
  have HP := Aside0.mk hp
  clear hp hb2 LA
  go_wp2_with fail
  refine (made9_any codeQ w2 (by decide)).mono ?_
  rintro e1 w3 ⟨B3, rfl, hC, hb3⟩
  have LB := Aside0.mk (linked9_any codeQ B3 w3 hC linkQ)
  have HP := Aside0.mk (HP.out.below hb3)
  have B3 := Aside0.mk (bthen B2.out hb3)
  clear hC hb3
  go_wp2_with fail
  refine LB.out.mono ?_
  rintro e2 w4 ⟨qb, rfl, hq, hb4⟩
  have HP := Aside0.mk (HP.out.below hb4)
  have HQ := Aside0.mk hq
  have B4 := Aside0.mk (bthen B3.out hb4)
  clear hq hb4 LB
  obtain ⟨LP, hLP, cP⟩ := lmethod_calls (k := 100) nMain nmain HP.out (okB_all okP).1 findP lmP
  have CP := Aside0.mk cP
  have HLP := Aside0.mk (hLP rfl)
  clear cP hLP
  go_wp2_with fail
  refine CP.out.mono ?_
  rintro e5 w5 ⟨v5, rfl, hb5, h5, _⟩
  obtain ⟨BB, lb, cs, tv, _, rfl, g3, g4, g5, g6⟩ := h5 rfl
  have hl3 : LP.length = 3 := HLP.out.2
  rw [hl3] at g4 ⊢
  obtain ⟨Lv, Sv, v, _, _, _, a4, _, _, a7, _⟩ := (g6 1 _ [0] (List.getElem?_eq_getElem (by rw [hl3]; decide)) rfl).out
  have t0 : w5.cell? ⟨lb, 7, none⟩ = some v := Bx.cell ⟨g3⟩ a4
  obtain ⟨AV, cV, rfl, hcV, hV⟩ := a7.reads
  have HV := Aside0.mk hV
  have T0 := Aside0.mk t0
  have B5 := Aside0.mk (bthen B4.out hb5)
  obtain ⟨LQ, hLQ, cQ⟩ := lmethod_calls (k := 100) nMain nmain (HQ.out.below hb5) (okB_all okQ).1 findQ lmQ
  have HQ := Aside0.mk (HQ.out.below hb5)
  have CQ := Aside0.mk cQ
  clear hLQ cQ hb5 h5 g3 g4 g5 g6 a4 a7 hV t0 CP
  go_wp2_with fail
  refine CQ.out.mono ?_
  rintro e6 w6 ⟨v6, rfl, hb6, _, h6⟩
  obtain rfl := h6 (by decide)
  have t0 : w6.cell? ⟨lb, 7, none⟩ = some (.slice AV 1 cV) := pw_cell_below hb6 T0.out
  have hk : (Kd.int .i64).C (w6.alloc (.cells #[.int .i64 0] IT)) (some ⟨w6.heap.size, 0, none⟩) 1 [0] := by
    refine row_one (Kd.int .i64) (cs := [.int .i64 0]) (blk_new _ _) rfl
  have IE := Aside0.mk (intsEq_any [0] [0] AV (some ⟨w6.heap.size, 0, none⟩) cV 1 (w6.alloc (.cells #[.int .i64 0] IT)) (Kd.C_below (Kd.C_below HV.out hb6) (balloc _ _)) hk)
  have HQ := Aside0.mk (HQ.out.below hb6)
  have B6 := Aside0.mk (bthen B5.out hb6)
  clear hb6 h6 hk
  go_wp2_with fail
  refine IE.out.mono ?_
  rintro e7 w7 ⟨rfl, hb7⟩
  have B7 := Aside0.mk (bthen B6.out (bthen (balloc _ _) hb7))
  have VA := Aside0.mk (lall_any w7 qb pQ (HQ.out.below (bthen (balloc _ _) hb7)) (okB_all okQ).1 (okB_all okQ).2 100 90 allQ)
  clear hb7
  go_wp2_with fail
  refine VA.out.mono ?_
  rintro e8 w8 ⟨rfl, hb8⟩
  have B8 := Aside0.mk (bthen B7.out hb8)
  go_wp2
  go_ret
  exact ⟨rfl, B8.out⟩
end Go.Proofs.Ytpdjkclacbgneaa
