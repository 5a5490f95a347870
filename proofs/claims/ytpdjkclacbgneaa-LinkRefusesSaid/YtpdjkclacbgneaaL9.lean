/- loomlaw7.LinkRefuses: chain in stretches of blocks; the nine programs; the walk. For every input: true. -/
import Derived.Test.YtpdjkclacbgneaaL7
import Derived.OpenShut
set_option linter.unusedVariables false
set_option linter.unusedSimpArgs false
namespace Go.Proofs.Ytpdjkclacbgneaa
open Go.RowKit Go.Shelf Go.Proofs.YtpdjkclacbgneaaW.PrintWords Go.Proofs.Ytpdjkclacbgneaa.Pl

/-- A row of classes of one's own, below top; each class's rows lie in a stretch of blocks of its own. -/
def Str (w : World) (base top : Nat) (v : Value) (l : List Cl) : Prop :=
  ∃ bnd : Nat → Nat, ∃ inner, w.ownsRow base CT 5 v l.length inner ∧ (∀ i, bnd i ≤ bnd (i + 1)) ∧ bnd l.length ≤ top ∧ top ≤ w.heap.size ∧ inner.length = l.length * 5 ∧
    ∀ j p, l[j]? = some p → clK.M w base (fun k => (bnd j ≤ k ∧ k < bnd (j + 1)) ∧ some k ≠ v.ownBlock) p ((inner.drop (j * 5)).take 5)
theorem Str.R {w : World} {base top : Nat} {v : Value} {l : List Cl} (h : Str w base top v l) : clK.R CT w base (fun _ => True) v l := by
  obtain ⟨bnd, inner, ho, _, _, _, hl, hm⟩ := h
  exact ⟨fun _ _ => trivial, inner, ho, hl, fun j p hj => clK.M_mono (fun k hk => ⟨trivial, hk.2⟩) (hm j p hj)⟩
theorem Str.below {w w1 : World} {base top : Nat} {v : Value} {l : List Cl} (h : Str w base top v l) (hb : Below w.heap.size w w1) : Str w1 base top v l := by
  obtain ⟨bnd, inner, ho, h1, h2, h3, hl, hm⟩ := h
  exact ⟨bnd, inner, pw_own_below ho hb, h1, h2, Nat.le_trans h3 hb.size, hl, fun j p hj => Kd.M_below (hm j p hj) hb⟩
theorem Str.top {w : World} {base top top' : Nat} {v : Value} {l : List Cl} (h : Str w base top v l) (ht : top ≤ top') (hs : top' ≤ w.heap.size) : Str w base top' v l := by
  obtain ⟨bnd, inner, ho, h1, h2, h3, hl, hm⟩ := h
  exact ⟨bnd, inner, ho, h1, Nat.le_trans h2 ht, hs, hl, hm⟩
/-- A class appended, whose rows lie above. -/
theorem app_str {base top : Nat} {W : World} {v : Value} {l : List Cl} {p : Cl} {cs : List Value} (h : Str W base top v l) (hp : clK.M W base (fun k => (top ≤ k ∧ k < W.heap.size) ∧ some k ≠ v.ownBlock) p cs) (hB : base ≤ W.heap.size) (hl : l.length ≤ 1000) :
    ∃ v1 w1, (Builtin.append_ #[45, 45] 45 #[v, .slice (some ⟨W.heap.size, 0, none⟩) 1 1]).run Try.prog (W.alloc (.cells cs.toArray CT)) = .ok v1 w1 ∧ Str w1 base W.heap.size v1 (l ++ [p]) ∧ W.grownBy w1 v.ownBlock := by
  obtain ⟨i0, hi, hzz⟩ := Option.map_eq_some_iff.1 clInfo
  simp only [Prod.mk.injEq, decide_eq_true_eq] at hzz
  obtain ⟨hz0, hz1, hz2⟩ := hzz
  have hb := balloc W (.cells cs.toArray CT)
  have hst : Try.prog.underlying 45 = some (.slice CT) := Try.underlying45
  obtain ⟨bnd, inner, ho, hmono, htop, hts, hil, hm⟩ := h
  have hlen : cs.length = 5 := clK.K_len (clK.K_of_M hp)
  have hby : (l.length + 1) * i0.bytes ≤ 140737488355328 := by
    have h1 : (l.length + 1) * i0.bytes ≤ 1001 * 200 := Nat.mul_le_mul (by omega) hz2
    omega
  obtain ⟨v1, w1, hrun, h2, hg, _, hat⟩ := run_append_own_at (P := Try.prog) (w := W.alloc (.cells cs.toArray CT)) base 45 45 CT i0 (.agg #[.string ⟨#[]⟩, .string ⟨#[]⟩, .slice none 0 0, .slice none 0 0, .slice none 0 0]) 5 i0.bytes hst hi hz0 hz1 rfl rfl (by decide) v l.length inner (pw_own_below ho hb) ⟨W.heap.size, 0, none⟩ 1 1 cs (by simpa using hlen)
    (World.news_of_block (blk_new W _)) (clK.K_one (clK.K_of_M hp)) (by simp only [maxLen]; omega) hby (Nat.le_trans hB hb.size)
  have hgr := World.grownBy.trans (World.grownBy_alloc W (.cells cs.toArray CT) v.ownBlock) hg
  have hat' : v1.ownBlock = v.ownBlock ∨ ∃ b, v1.ownBlock = some b ∧ W.heap.size ≤ b := by
    rcases hat with hat | hat
    · exact .inl hat
    · exact .inr ⟨_, hat, hb.size⟩
  have hne : ∀ k, some k ≠ v.ownBlock → k < W.heap.size → some k ≠ v1.ownBlock := by
    intro k hk hlt
    rcases hat' with hat | ⟨b, hb, hle⟩
    · rw [hat]; exact hk
    · rw [hb]
      intro he
      injection he with he
      omega
  have step : ∀ {q : Cl} {c : List Value} {o : Nat → Prop}, clK.M W base (fun k => o k ∧ some k ≠ v.ownBlock) q c → clK.M w1 base (fun k => o k ∧ some k ≠ v1.ownBlock) q c := by
    intro q c o hq
    have h1 := clK.M_move (w1 := w1) (fun k hk => hgr.block k hk.2.2.1 hk.1.2) (clK.M_bound hq)
    exact clK.M_mono (fun k hk => ⟨hk.1.1, hne k hk.1.2 hk.2.2.1⟩) h1
  have hmon : ∀ n i, bnd i ≤ bnd (i + n) := fun n => by
    induction n with
    | zero => exact fun i => Nat.le_refl _
    | succ n ih => exact fun i => Nat.le_trans (ih i) (hmono (i + n))
  refine ⟨v1, w1, hrun, ⟨fun i => if i < l.length then bnd i else if i = l.length then top else W.heap.size, inner ++ cs, by rw [List.length_append, List.length_singleton]; exact h2, fun i => ?_, ?_, hgr.size, ?_, fun j q hj => ?_⟩, hgr⟩
  · show (if i < l.length then bnd i else if i = l.length then top else W.heap.size) ≤ (if i + 1 < l.length then bnd (i + 1) else if i + 1 = l.length then top else W.heap.size)
    have h0 := hmono i
    by_cases e1 : i + 1 < l.length
    · rw [if_pos e1, if_pos (by omega)]; exact h0
    · by_cases e2 : i + 1 = l.length
      · rw [if_neg e1, if_pos e2, if_pos (by omega)]
        rw [← e2] at htop
        omega
      · rw [if_neg e1, if_neg e2, if_neg (by omega)]
        split
        · exact hts
        · exact Nat.le_refl _
  · show (if (l ++ [p]).length < l.length then _ else _) ≤ _
    rw [List.length_append, List.length_singleton, if_neg (by omega), if_neg (by omega)]
    exact Nat.le_refl _
  · rw [List.length_append, List.length_append, List.length_singleton, hil, hlen]
    omega
  · by_cases hjl : j < l.length
    · rw [List.getElem?_append_left hjl] at hj
      have h3 := step (hm j q hj)
      rw [List.drop_append_of_le_length (by omega), List.take_append_of_le_length (by rw [List.length_drop]; omega)]
      refine clK.M_mono (fun k hk => ⟨⟨?_, ?_⟩, hk.2⟩) h3
      · show (if j < l.length then bnd j else _) ≤ k
        rw [if_pos hjl]; exact hk.1.1
      · show k < (if j + 1 < l.length then bnd (j + 1) else if j + 1 = l.length then top else W.heap.size)
        have hk1 := hk.1.2
        by_cases e1 : j + 1 < l.length
        · rw [if_pos e1]; exact hk1
        · have e2 : j + 1 = l.length := by omega
          rw [if_neg e1, if_pos e2]
          rw [e2] at hk1
          omega
    · have hj2 : j < (l ++ [p]).length := (List.getElem?_eq_some_iff.1 hj).1
      rw [List.length_append, List.length_singleton] at hj2
      have hje : j = l.length := by omega
      subst hje
      rw [List.getElem?_append_right (Nat.le_refl _), Nat.sub_self] at hj
      cases hj
      have h3 := step hp
      rw [List.drop_append, hil, Nat.sub_self, List.drop_zero, List.drop_of_length_le (by omega), List.nil_append, List.take_of_length_le (by omega)]
      refine clK.M_mono (fun k hk => ⟨⟨?_, ?_⟩, hk.2⟩) h3
      · show (if l.length < l.length then bnd l.length else if l.length = l.length then top else W.heap.size) ≤ k
        rw [if_neg (by omega), if_pos rfl]; exact hk.1.1
      · show k < (if l.length + 1 < l.length then _ else if l.length + 1 = l.length then top else W.heap.size)
        rw [if_neg (by omega), if_neg (by omega)]; exact hk.1.2
set_option maxRecDepth 100000 in
set_option maxHeartbeats 4000000 in
theorem chain_str (l : List Int) (h : List Bool) (A B : Option Addr) (c d : Nat) (w : World) (hl : (Kd.int .u8).C w A l.length l) (hwf : ∀ n ∈ l, (Lit.int .u8 n).wf = true) (hh : Kd.bool.C w B h.length h) (h14 : l.length ≤ 12) :
    Calls Try.prog 19 #[.slice A l.length c, .slice B h.length d] w fun e w' => ∃ v, e = .returned v ∧ Str w' w.heap.size w'.heap.size v (clM7 :: chainOf h 0 l) ∧ Below w.heap.size w w' := by
  have HA := Aside0.mk hl
  have HB := Aside0.mk hh
  have HWF := Aside0.mk hwf
  obtain ⟨n, hn⟩ : ∃ n, l.length = n := ⟨_, rfl⟩
  obtain ⟨m, hm⟩ : ∃ m, h.length = m := ⟨_, rfl⟩
  rw [hn] at HA h14 ⊢
  rw [hm] at HB ⊢
  have hmax := HA.out.2.1
  have hmaxb := HB.out.2.1
  clear hl hh hwf
  go_enter Try.func19, Try.ntmps19
  go_wp2_with fail
  refine (mainM_any w).mono ?_
  rintro e1 w1 ⟨v, u, rfl, hv, hu, hb1⟩
  obtain ⟨A1, c1, rfl⟩ := Kd.R_slice hv
  obtain ⟨A2, c2, rfl⟩ := Kd.R_slice hu
  have hR : Str (w1.alloc (.cells #[.string nMain, .string nil, .slice none 0 0, .slice A1 2 c1, .slice A2 1 c2] CT)) w.heap.size (w1.alloc (.cells #[.string nMain, .string nil, .slice none 0 0, .slice A1 2 c1, .slice A2 1 c2] CT)).heap.size (.slice (some ⟨w1.heap.size, 0, none⟩) 1 1) [clM7] := by
    refine ⟨fun i => if i = 0 then 0 else w1.heap.size, [.string nMain, .string nil, .slice none 0 0, .slice A1 2 c1, .slice A2 1 c2], ⟨rfl, .inr ⟨w1.heap.size, 1, _, rfl, hb1.size, blk_new w1 _, Nat.le_refl _, by unfold maxLen; omega, by simp, rfl⟩⟩, fun i => ?_, ?_, Nat.le_refl _, rfl, fun j p hj => ?_⟩
    · show (if i = 0 then 0 else w1.heap.size) ≤ (if i + 1 = 0 then 0 else w1.heap.size)
      rw [if_neg (by omega : ¬ i + 1 = 0)]
      split <;> omega
    · rw [World.size_alloc]
      exact Nat.le_succ _
    · have hj0 : j = 0 := by have := (List.getElem?_eq_some_iff.1 hj).1; simpa using this
      subst hj0
      cases hj
      refine clK_M nMain nil fdM [mtRet nmain] ?_ ?_
      · exact Kd.R_alloc (Kd.R_mono (Kd.R_bound hv) (fun k hk => ⟨⟨Nat.zero_le _, hk.2.2.1⟩, fun e => absurd hk.2.2.1 (by rw [show k = w1.heap.size from by simpa [Value.ownBlock] using e]; exact Nat.lt_irrefl _)⟩)) _
      · exact Kd.R_alloc (Kd.R_mono (Kd.R_bound hu) (fun k hk => ⟨⟨Nat.zero_le _, hk.2.2.1⟩, fun e => absurd hk.2.2.1 (by rw [show k = w1.heap.size from by simpa [Value.ownBlock] using e]; exact Nat.lt_irrefl _)⟩)) _
  have HR := Aside0.mk hR
  have B1 := Aside0.mk (bthen hb1 (balloc w1 (.cells #[.string nMain, .string nil, .slice none 0 0, .slice A1 2 c1, .slice A2 1 c2] CT)))
  clear hR hv hu hb1
  go_wp2_with fail
  go_loopw [5, 6, 7] (fun s5 s6 s7 wr => ∃ kk : Nat, kk ≤ n ∧ s7 = .int .i64 kk ∧ s6 = .string (if kk = 0 then nil else letC (kk - 1)) ∧ Aside0 (Str wr w.heap.size wr.heap.size s5 (clM7 :: chainOf h 0 (l.take kk))) ∧ Aside0 (Below w.heap.size w wr)) (fun _ _ s7 _ => n - (intOf s7).toNat)
  case atStart => exact ⟨0, Nat.zero_le _, rfl, rfl, HR, B1⟩
  case round =>
    obtain ⟨kk, hk, rfl, hs6, HO, BW⟩ := hrel
    obtain ⟨up, hup⟩ : ∃ up, (if kk = 0 then nil else letC (kk - 1)) = up := ⟨_, rfl⟩
    rw [hup] at hs6
    subst hs6
    have HUP := Lib.hid hup
    clear hup
    by_cases hlt : kk < n
    · have hltz : (kk : Int) < (n : Int) := by omega
      have hk0 : (0 : Int) ≤ (kk : Int) := by omega
      have hk14 : (kk : Int) + 1 ≤ 14 := by omega
      obtain ⟨x, hx⟩ : ∃ x, l[kk]? = some x := ⟨_, List.getElem?_eq_getElem (by omega)⟩
      obtain ⟨x0, x255⟩ := bounds_u8 (HWF.out x (List.mem_of_getElem? hx))
      obtain ⟨ad, hA, hcell⟩ := u8_at7 HA.out hx
      subst hA
      have hcell : ∀ o, (wr.alloc o).cell? (ad.add kk) = some (.int .u8 x) := fun o => pw_cell_below (bthen BW.out (balloc wr o)) hcell
      have hext : (ByteArray.mk #[65, 66, 67, 68, 69, 70, 71, 72, 73, 74, 75, 76, 77, 78]).extract kk (kk + 1) = letC kk := ext7 kk (by omega)
      have hx3 : x.tmod 3 = x % 3 := Int.tmod_eq_emod_of_nonneg x0
      have hx30 : 0 ≤ x % 3 := Int.emod_nonneg _ (by decide)
      have hx33 : x % 3 < 3 := Int.emod_lt_of_pos _ (by decide)
      have hsz : ¬ 9223372036854775807 < 1 + (letC kk).size := by show ¬ 9223372036854775807 < 1 + 1; decide
      have hfl : (ByteArray.mk #[102]) ++ letC kk = fldC kk := fld7 kk (by omega)
      obtain ⟨k3, hk3⟩ : ∃ k3, x % 3 = k3 := ⟨_, rfl⟩
      rw [hk3] at hx3 hx30 hx33
      obtain ⟨q, hq⟩ : ∃ q, h.getD kk false = q := ⟨_, rfl⟩
      have hadd : chainOf h 0 (l.take (kk + 1)) = chainOf h 0 (l.take kk) ++ [⟨letC kk, up, [], [⟨fldC kk, ⟨k3 + 1, nil⟩, false⟩], if q then [mtRet ⟨#[109]⟩] else []⟩] := by
        have hlen : (l.take kk).length = kk := by rw [List.length_take]; omega
        rw [List.take_add_one, hx]
        show chainOf h 0 (l.take kk ++ [x]) = _
        rw [chainOf_add, Nat.zero_add, hlen, clC7, hq, hk3, HUP.out]
      have HADD := Lib.hid hadd
      have hvlt := Kd.R_lt HO.out.R
      obtain ⟨A5, c5, hs5⟩ := Kd.R_slice HO.out.R
      have hlen5 : (clM7 :: chainOf h 0 (l.take kk)).length = kk + 1 := by rw [List.length_cons, chainOf_len, List.length_take]; omega
      have hb3 := bthen (balloc wr (.cells #[.string (letC kk), .string up, .slice none 0 0, .slice (some ⟨wr.heap.size + 1 + 1, 0, none⟩) 1 1, .slice none 0 0] CT)) (bthen (balloc _ (.cells #[.int .i64 (k3 + 1), .string ⟨#[]⟩] 48)) (balloc _ (.cells #[.string (fldC kk), .int .i64 (k3 + 1), .string ⟨#[]⟩, .bool false] FdT)))
      have hf3 := blk_new ((wr.alloc (.cells #[.string (letC kk), .string up, .slice none 0 0, .slice (some ⟨wr.heap.size + 1 + 1, 0, none⟩) 1 1, .slice none 0 0] CT)).alloc (.cells #[.int .i64 (k3 + 1), .string ⟨#[]⟩] 48)) (.cells #[.string (fldC kk), .int .i64 (k3 + 1), .string ⟨#[]⟩, .bool false] FdT)
      rw [World.size_alloc, World.size_alloc] at hf3
      have hw5 : w.heap.size ≤ wr.heap.size := BW.out.size
      have hbool : ((kk : Int) < (m : Int) ∧ ∃ bd, B = some bd ∧ ∀ W', Below w.heap.size w W' → W'.cell? (bd.add kk) = some (.bool q)) ∨ (¬ (kk : Int) < (m : Int) ∧ q = false) := by
        by_cases hkm : kk < m
        · left
          obtain ⟨bd, e, hc⟩ := Kd.at_bool HB.out (kk : Int) (by omega) (by omega)
          refine ⟨by omega, bd, e, fun W' hW => ?_⟩
          rw [Int.toNat_natCast, rdOf, Int.toNat_natCast, hq] at hc
          exact pw_cell_below hW hc
        · right
          refine ⟨by omega, ?_⟩
          rw [← hq, List.getD_eq_getElem?_getD, List.getElem?_eq_none (by omega)]
          rfl
      cases q
      · have hM : clK.M (((wr.alloc (.cells #[.string (letC kk), .string up, .slice none 0 0, .slice (some ⟨wr.heap.size + 1 + 1, 0, none⟩) 1 1, .slice none 0 0] CT)).alloc (.cells #[.int .i64 (k3 + 1), .string ⟨#[]⟩] 48)).alloc (.cells #[.string (fldC kk), .int .i64 (k3 + 1), .string ⟨#[]⟩, .bool false] FdT)) w.heap.size (fun k => (wr.heap.size ≤ k ∧ k < (((wr.alloc (.cells #[.string (letC kk), .string up, .slice none 0 0, .slice (some ⟨wr.heap.size + 1 + 1, 0, none⟩) 1 1, .slice none 0 0] CT)).alloc (.cells #[.int .i64 (k3 + 1), .string ⟨#[]⟩] 48)).alloc (.cells #[.string (fldC kk), .int .i64 (k3 + 1), .string ⟨#[]⟩, .bool false] FdT)).heap.size) ∧ some k ≠ u5.ownBlock) ⟨letC kk, up, [], [⟨fldC kk, ⟨k3 + 1, nil⟩, false⟩], []⟩ [.string (letC kk), .string up, .slice none 0 0, .slice (some ⟨wr.heap.size + 1 + 1, 0, none⟩) 1 1, .slice none 0 0] := by
          refine clK_M (letC kk) up _ _ (rowR_one fdK (cs := fdCs ⟨fldC kk, ⟨k3 + 1, nil⟩, false⟩) hf3 (by omega) ⟨⟨by omega, blk_lt hf3⟩, fun e => ?_⟩ (fdK_M _ _ _ _)) (Kd.R_nil _ _ _ _ _)
          have := hvlt _ e.symm
          omega
        obtain ⟨v1, w9, E1, o9, g9⟩ := app_str (HO.out.below hb3) hM (Nat.le_trans hw5 hb3.size) (by rw [hlen5]; omega)
        have B9 := Aside0.mk (pw_below_grown (bthen BW.out hb3) _ (Nat.le_trans hw5 hb3.size) g9 (fun k e => Kd.R_base HO.out.R k e))
        have HO9 : Aside0 (Str w9 w.heap.size w9.heap.size v1 (clM7 :: chainOf h 0 (l.take (kk + 1)))) := ⟨by rw [HADD.out]; exact o9.top g9.size (Nat.le_refl _)⟩
        have hUP2 : Hid ((if kk + 1 = 0 then nil else letC (kk + 1 - 1)) = letC kk) := Lib.hid (by simp)
        rw [size3] at E1
        rw [hlen5] at hs5
        subst hs5
        have E1 : (Builtin.append_ #[45, 45] 45 #[_, .slice (some ⟨wr.heap.size + 1 + 1 + 1, 0, none⟩) 1 1]).run Try.prog ((((wr.alloc (.cells #[.string (letC kk), .string up, .slice none 0 0, .slice (some ⟨wr.heap.size + 1 + 1, 0, none⟩) 1 1, .slice none 0 0] CT)).alloc (.cells #[.int .i64 (k3 + 1), .string ⟨#[]⟩] 48)).alloc (.cells #[.string (fldC kk), .int .i64 (k3 + 1), .string ⟨#[]⟩, .bool false] FdT)).alloc (.cells #[.string (letC kk), .string up, .slice none 0 0, .slice (some ⟨wr.heap.size + 1 + 1, 0, none⟩) 1 1, .slice none 0 0] CT)) = .ok v1 w9 := E1
        have hbw := bthen BW.out hb3
        clear hM o9 g9 hb3 hf3 hadd hx HO
        rcases hbool with ⟨hkm, bd, rfl, hbc⟩ | ⟨hkm, _⟩
        · have hbq := hbc _ hbw
          clear hbc hbw
          go_wp2_with (at_builtin; refine wpList_append_E rfl _ _ _ rfl rfl rfl E1 ?_)
          clear E1
          go_wp2
          go_roundw
          case rel => exact ⟨kk + 1, by omega, by go_num, by rw [hUP2.out], HO9, B9⟩
          case measure => simp [intOf]; omega
        · go_wp2_with (at_builtin; refine wpList_append_E rfl _ _ _ rfl rfl rfl E1 ?_)
          clear E1
          go_wp2
          go_roundw
          case rel => exact ⟨kk + 1, by omega, by go_num, by rw [hUP2.out], HO9, B9⟩
          case measure => simp [intOf]; omega
      · obtain ⟨hkm, bd, rfl, hbc⟩ : (kk : Int) < (m : Int) ∧ ∃ bd, B = some bd ∧ ∀ W', Below w.heap.size w W' → W'.cell? (bd.add kk) = some (.bool true) := by
          rcases hbool with h | ⟨_, h⟩
          · exact h
          · cases h
        have hbq := hbc _ (bthen BW.out hb3)
        have hc3 := blk_alloc (blk_alloc (blk_new wr (.cells #[.string (letC kk), .string up, .slice none 0 0, .slice (some ⟨wr.heap.size + 1 + 1, 0, none⟩) 1 1, .slice none 0 0] CT)) (.cells #[.int .i64 (k3 + 1), .string ⟨#[]⟩] 48)) (.cells #[.string (fldC kk), .int .i64 (k3 + 1), .string ⟨#[]⟩, .bool false] FdT)
        have hs3 := size3 wr (.cells #[.string (letC kk), .string up, .slice none 0 0, .slice (some ⟨wr.heap.size + 1 + 1, 0, none⟩) 1 1, .slice none 0 0] CT) (.cells #[.int .i64 (k3 + 1), .string ⟨#[]⟩] 48) (.cells #[.string (fldC kk), .int .i64 (k3 + 1), .string ⟨#[]⟩, .bool false] FdT)
        clear hbool hbc
        go_wp2_with fail
        refine (ret_any ⟨#[109]⟩ _).mono ?_
        rintro e5 w5 ⟨gi, rfl, hgi, hgi2, hb5⟩
        have hc5 := blk_below hc3 hb5
        have hf5 := blk_below hf3 hb5
        rw [hs3] at hgi
        have hs5' := hb5.size
        rw [hs3] at hs5'
        have hb35 := bthen hb3 hb5
        have hm6 := blk_new w5 (.cells ([.string ⟨#[109]⟩, .slice none 0 0, .int .i64 0, .string nil, .int .i64 1, .int .i64 0, .slice (some ⟨gi, 0, none⟩) 1 1, .slice none 0 0] : List Value).toArray MT)
        obtain ⟨W6, hW6⟩ : ∃ W6, (w5.alloc (.cells #[.string ⟨#[109]⟩, .slice none 0 0, .int .i64 0, .string nil, .int .i64 1, .int .i64 0, .slice (some ⟨gi, 0, none⟩) 1 1, .slice none 0 0] MT)).setCell ⟨wr.heap.size, 4, none⟩ (.slice (some ⟨w5.heap.size, 0, none⟩) 1 1) = W6 := ⟨_, rfl⟩
        have hb5a := bthen hb35 (balloc w5 (.cells #[.string ⟨#[109]⟩, .slice none 0 0, .int .i64 0, .string nil, .int .i64 1, .int .i64 0, .slice (some ⟨gi, 0, none⟩) 1 1, .slice none 0 0] MT))
        have hb6 : Below wr.heap.size wr W6 := by rw [← hW6]; exact hb5a.setCell (p := ⟨wr.heap.size, 4, none⟩) (Nat.le_refl _) _
        have hc6a := blk_alloc hc5 (.cells #[.string ⟨#[109]⟩, .slice none 0 0, .int .i64 0, .string nil, .int .i64 1, .int .i64 0, .slice (some ⟨gi, 0, none⟩) 1 1, .slice none 0 0] MT)
        have z4 := Bx.cell ⟨hc6a⟩ (j := 4) rfl
        have zf := blk_frozen hc6a 4
        have hc6 : W6.heap[wr.heap.size]? = some (.cells #[.string (letC kk), .string up, .slice none 0 0, .slice (some ⟨wr.heap.size + 1 + 1, 0, none⟩) 1 1, .slice (some ⟨w5.heap.size, 0, none⟩) 1 1] CT (0, 0)) := by
          rw [← hW6, heap_set hc6a]
          rfl
        have hne6 : ∀ k : Nat, k ≠ wr.heap.size → ∀ o, (w5.alloc (.cells #[.string ⟨#[109]⟩, .slice none 0 0, .int .i64 0, .string nil, .int .i64 1, .int .i64 0, .slice (some ⟨gi, 0, none⟩) 1 1, .slice none 0 0] MT)).heap[k]? = some o → W6.heap[k]? = some o := fun k hk o ho => by rw [← hW6, Below.heap_setCell _ _ _ _ (by simpa using hk)]; exact ho
        have hf6 := hne6 _ (by omega) _ (blk_alloc hf5 _)
        have hi6 := hne6 _ (by omega) _ (blk_alloc hgi2 _)
        have hm6' := hne6 _ (by omega) _ hm6
        have x0' := Bx.cell ⟨hc6⟩ (j := 0) rfl
        have x1' := Bx.cell ⟨hc6⟩ (j := 1) rfl
        have x2' := Bx.cell ⟨hc6⟩ (j := 2) rfl
        have x3' := Bx.cell ⟨hc6⟩ (j := 3) rfl
        have x4' := Bx.cell ⟨hc6⟩ (j := 4) rfl
        have hown5 : ∀ k, wr.heap.size ≤ k → k < W6.heap.size → (wr.heap.size ≤ k ∧ k < W6.heap.size) ∧ some k ≠ u5.ownBlock := fun k hk hk2 => ⟨⟨hk, hk2⟩, fun e => by have := hvlt _ e.symm; omega⟩
        have hM : clK.M W6 w.heap.size (fun k => (wr.heap.size ≤ k ∧ k < W6.heap.size) ∧ some k ≠ u5.ownBlock) ⟨letC kk, up, [], [⟨fldC kk, ⟨k3 + 1, nil⟩, false⟩], [mtRet ⟨#[109]⟩]⟩ [.string (letC kk), .string up, .slice none 0 0, .slice (some ⟨wr.heap.size + 1 + 1, 0, none⟩) 1 1, .slice (some ⟨w5.heap.size, 0, none⟩) 1 1] :=
          clK_M (letC kk) up _ _ (rowR_one fdK (cs := fdCs ⟨fldC kk, ⟨k3 + 1, nil⟩, false⟩) hf6 (by omega) (hown5 _ (by omega) (blk_lt hf6)) (fdK_M _ _ _ _))
            (rowR_one mtK hm6' (by omega) (hown5 _ (by omega) (blk_lt hm6')) (mtK_M ⟨#[109]⟩ (rowR_one inK (cs := inCs ⟨33, 0⟩) hi6 (by omega) ⟨hown5 _ (by omega) (blk_lt hi6), fun e => by injection e with e; have := blk_lt hgi2; omega⟩ (inK_M _ _ _ ⟨33, 0⟩))))
        obtain ⟨v1, w9, E1, o9, g9⟩ := app_str (HO.out.below hb6) hM (Nat.le_trans hw5 hb6.size) (by rw [hlen5]; omega)
        have B9 := Aside0.mk (pw_below_grown (bthen BW.out hb6) _ (Nat.le_trans hw5 hb6.size) g9 (fun k e => Kd.R_base HO.out.R k e))
        have HO9 : Aside0 (Str w9 w.heap.size w9.heap.size v1 (clM7 :: chainOf h 0 (l.take (kk + 1)))) := ⟨by rw [HADD.out]; exact o9.top g9.size (Nat.le_refl _)⟩
        have hUP2 : Hid ((if kk + 1 = 0 then nil else letC (kk + 1 - 1)) = letC kk) := Lib.hid (by simp)
        rw [hlen5] at hs5
        subst hs5
        have E1 : (Builtin.append_ #[45, 45] 45 #[_, .slice (some ⟨W6.heap.size, 0, none⟩) 1 1]).run Try.prog (W6.alloc (.cells #[.string (letC kk), .string up, .slice none 0 0, .slice (some ⟨wr.heap.size + 1 + 1, 0, none⟩) 1 1, .slice (some ⟨w5.heap.size, 0, none⟩) 1 1] CT)) = .ok v1 w9 := E1
        clear hbq hcell hM o9 g9 hb3 hf3 hc3 hadd hx HO hne6 hf6 hi6 hm6 hm6' hc6 hc6a hb5a hb6 hb35 hf5 hc5 hb5
        go_wp2_with (at_builtin; refine wpList_append_E rfl _ _ _ rfl rfl rfl E1 ?_)
        clear E1
        go_wp2
        go_roundw
        case rel => exact ⟨kk + 1, by omega, by go_num, by rw [hUP2.out], HO9, B9⟩
        case measure => simp [intOf]; omega
    · have hltz : ¬ (kk : Int) < (n : Int) := by omega
      have hkn : kk = n := by omega
      rw [hkn, List.take_of_length_le (by omega)] at HO
      go_wp2
      go_ret
      exact ⟨_, rfl, HO.out, BW.out⟩
end Go.Proofs.Ytpdjkclacbgneaa
namespace Go.Proofs.Ytpdjkclacbgneaa
open Go.RowKit Go.Shelf Go.Proofs.YtpdjkclacbgneaaW.PrintWords Go.Proofs.Ytpdjkclacbgneaa.Pl

abbrev CnT : TypeId := 32
/-- A row of one element, opened. -/
theorem row1_open {α : Type} {d : Kd α} {e : Nat} {w : World} {base : Nat} {ok : Nat → Prop} {v : Value} {x : α} (h : d.R e w base ok v [x]) : ∃ g cap inner, v = .slice (some ⟨g, 0, none⟩) 1 cap ∧ ok g ∧ w.ownsRow base e d.sz v 1 inner ∧ d.M w base (fun k => ok k ∧ k ≠ g) x inner := by
  obtain ⟨h0, inner, ho, hr⟩ := h
  have ho' := ho
  have hm := hr.2 0 x rfl
  have hl : inner.length = d.sz := by rw [hr.1]; simp
  rw [Nat.zero_mul, List.drop_zero, List.take_of_length_le (by omega)] at hm
  rcases ho.2 with ⟨_, h1⟩ | ⟨g, cap, cur, rfl, _⟩
  · cases h1
  · exact ⟨g, cap, inner, rfl, h0 g rfl, ho', d.M_mono (fun k hk => ⟨hk.1, fun e => hk.2 (by rw [e]; rfl)⟩) hm⟩
/-- A store into a row of one's own. -/
theorem own_put {w : World} {base : Nat} {e : TypeId} {size n g : Nat} {v : Value} {xs : List Value} (h : w.ownsRow base e size v n xs) (hv : v.ownBlock = some g) (i : Nat) (u : Value) : (w.setCell ⟨g, i, none⟩ u).ownsRow base e size v n (xs.set i u) := by
  obtain ⟨h1, h2⟩ := h
  rcases h2 with ⟨rfl, _⟩ | ⟨g', cap, cur, rfl, hb, hh, hcap, hmax, hsz, htake⟩
  · cases hv
  · cases hv
    refine ⟨by rw [List.length_set]; exact h1, .inr ⟨g', cap, cur.setIfInBounds i u, rfl, hb, heap_set hh, hcap, hmax, by rw [Array.size_setIfInBounds]; exact hsz, ?_⟩⟩
    rw [Array.toList_setIfInBounds, List.take_set, htake]
theorem own_at1 {w : World} {base : Nat} {e : TypeId} {size n g : Nat} {v : Value} {xs : List Value} (h : w.ownsRow base e size v n xs) (hv : v.ownBlock = some g) (i : Nat) (u : Value) (hu : xs[i]? = some u) : w.cell? ⟨g, i, none⟩ = some u ∧ w.frozen? ⟨g, i, none⟩ = false := by
  obtain ⟨h1, h2⟩ := h
  rcases h2 with ⟨rfl, _⟩ | ⟨g', cap, cur, rfl, hb, hh, hcap, hmax, hsz, htake⟩
  · cases hv
  · cases hv
    refine ⟨?_, blk_frozen hh i⟩
    rw [blk_cell hh, ← hu, ← htake, List.getElem?_take, Array.getElem?_toList]
    split
    · rfl
    · rename_i hlt
      rw [← htake, List.getElem?_take, if_neg hlt] at hu
      cases hu
/-- The rows of a class of the chain. -/
structure Ro (W : World) (base : Nat) (ok : Nat → Prop) (i : Nat) (p f m : Value) : Prop where
  pool : cnK.R CnT W base ok p []
  fields : fdK.R FdT W base ok f [⟨fldC i, ⟨1, nil⟩, false⟩]
  methods : mtK.R MT W base ok m [mtRet ⟨#[109]⟩]
theorem clK_openM {W : World} {base : Nat} {ok : Nat → Prop} {c : Cl} {cs : List Value} (h : clK.M W base ok c cs) : ∃ p f m, cs = [.string c.name, .string c.super, p, f, m] ∧ cnK.R CnT W base ok p c.pool ∧ fdK.R FdT W base ok f c.fields ∧ mtK.R MT W base ok m c.methods := by
  obtain ⟨c0, r0, rfl, h0, c1, r1, rfl, h1, c2, r2, rfl, ⟨p, h2, hp⟩, c3, r3, rfl, ⟨f, h3, hf⟩, m, h4, hm⟩ := h
  subst h2; subst h3; subst h4
  have h0 : c0 = [.string c.name] := h0
  have h1 : c1 = [.string c.super] := h1
  subst h0; subst h1
  exact ⟨p, f, m, rfl, hp, hf, hm⟩
/-- The chain of Main, A, B, laid open. -/
structure Th (W : World) (base ob cap : Nat) (b1 b2 : Nat) (cM : List Value) (pA fA mA pB fB mB : Value) : Prop where
  own : W.ownsRow base CT 5 (.slice (some ⟨ob, 0, none⟩) 3 cap) 3 (cM ++ [.string (letC 0), .string nil, pA, fA, mA] ++ [.string (letC 1), .string (letC 0), pB, fB, mB])
  len : cM.length = 5
  main : clK.M W base (fun k => k < b1 ∧ k ≠ ob) clM7 cM
  a : Ro W base (fun k => (b1 ≤ k ∧ k < b2) ∧ k ≠ ob) 0 pA fA mA
  b : Ro W base (fun k => b2 ≤ k ∧ k ≠ ob) 1 pB fB mB
  le : b1 ≤ b2
theorem str_three {W : World} {base top : Nat} {v : Value} (h : Str W base top v (clM7 :: chainOf [true, true] 0 [0, 0])) :
    ∃ ob cap b1 b2 cM pA fA mA pB fB mB, v = .slice (some ⟨ob, 0, none⟩) 3 cap ∧ Th W base ob cap b1 b2 cM pA fA mA pB fB mB := by
  obtain ⟨bnd, inner, ho, hmono, _, _, hl, hm⟩ := h
  have hl : inner.length = 15 := hl
  have ho : W.ownsRow base CT 5 v 3 inner := ho
  have ho' := ho
  rcases ho.2 with ⟨_, h1⟩ | ⟨ob, cap, cur, rfl, _⟩
  · cases h1
  · have m0 := hm 0 clM7 rfl
    have m1 := hm 1 (clC7 0 0 true) rfl
    have m2 := hm 2 (clC7 1 0 true) rfl
    obtain ⟨pA, fA, mA, e1, hpA, hfA, hmA⟩ := clK_openM m1
    obtain ⟨pB, fB, mB, e2, hpB, hfB, hmB⟩ := clK_openM m2
    have hsplit : inner = (inner.drop (0 * 5)).take 5 ++ (inner.drop (1 * 5)).take 5 ++ (inner.drop (2 * 5)).take 5 := by
      have a1 : (inner.drop (0 * 5)).take 5 = inner.take 5 := by rw [Nat.zero_mul, List.drop_zero]
      have a2 : (inner.drop (2 * 5)).take 5 = inner.drop 10 := List.take_of_length_le (by rw [List.length_drop]; omega)
      have a3 : inner.drop (1 * 5) = (inner.drop (1 * 5)).take 5 ++ inner.drop 10 := by
        conv => lhs; rw [← List.take_append_drop 5 (inner.drop (1 * 5)), List.drop_drop]
      rw [a1, a2, List.append_assoc, ← a3]
      exact (List.take_append_drop 5 inner).symm
    rw [e1, e2] at hsplit
    rw [hsplit] at ho'
    have hobn : ∀ {k : Nat}, some k ≠ (Value.slice (some ⟨ob, 0, none⟩) 3 cap).ownBlock → k ≠ ob := fun hk e => hk (by rw [e]; rfl)
    exact ⟨ob, cap, bnd 1, bnd 2, _, pA, fA, mA, pB, fB, mB, rfl, ho', by rw [List.length_take, List.length_drop]; omega, clK.M_mono (fun k hk => ⟨hk.1.2, hobn hk.2⟩) m0,
      ⟨Kd.R_mono hpA (fun k hk => ⟨hk.1, hobn hk.2⟩), Kd.R_mono hfA (fun k hk => ⟨hk.1, hobn hk.2⟩), Kd.R_mono hmA (fun k hk => ⟨hk.1, hobn hk.2⟩)⟩,
      ⟨Kd.R_mono hpB (fun k hk => ⟨hk.1.1, hobn hk.2⟩), Kd.R_mono hfB (fun k hk => ⟨hk.1.1, hobn hk.2⟩), Kd.R_mono hmB (fun k hk => ⟨hk.1.1, hobn hk.2⟩)⟩, hmono 1⟩
theorem Ro.step {W W1 : World} {base : Nat} {ok : Nat → Prop} {i : Nat} {p f m : Value} (h : Ro W base ok i p f m) (hm : ∀ k, ok k → k < W.heap.size → W1.heap[k]? = W.heap[k]?) : Ro W1 base ok i p f m := ⟨Kd.R_step h.pool hm, Kd.R_step h.fields hm, Kd.R_step h.methods hm⟩
/-- A class's words, read. -/
theorem clK_K {W : World} (name sup : Nm) {pl : List Cn} {fs : List Pl.Fd} {ms : List Mt} {p f m : Value} (hp : (Kd.slice CnT cnK).K W pl [p]) (hf : (Kd.slice FdT fdK).K W fs [f]) (hm : (Kd.slice MT mtK).K W ms [m]) : clK.K W ⟨name, sup, pl, fs, ms⟩ [.string name, .string sup, p, f, m] :=
  ⟨[.string name], _, rfl, rfl, [.string sup], _, rfl, rfl, [p], _, rfl, hp, [f], [m], rfl, hf, hm⟩
theorem sl_K {α : Type} {d : Kd α} {e : Nat} {w : World} {base : Nat} {ok : Nat → Prop} {v : Value} {xs : List α} (h : d.R e w base ok v xs) : (Kd.slice e d).K w xs [v] := (Kd.slice e d).K_of_M ⟨v, rfl, h⟩
theorem Ro.K {W : World} {base : Nat} {ok : Nat → Prop} {i : Nat} {p f m : Value} (h : Ro W base ok i p f m) (name sup : Nm) : clK.K W ⟨name, sup, [], [⟨fldC i, ⟨1, nil⟩, false⟩], [mtRet ⟨#[109]⟩]⟩ [.string name, .string sup, p, f, m] := clK_K name sup (sl_K h.pool) (sl_K h.fields) (sl_K h.methods)
/-- A row of one element of which the words are known, read. -/
theorem one_K {α : Type} {d : Kd α} {e : Nat} {w : World} {base g cap : Nat} {x : α} {cs : List Value} (h : w.ownsRow base e d.sz (.slice (some ⟨g, 0, none⟩) 1 cap) 1 cs) (hk : d.K w x cs) : (Kd.slice e d).K w [x] [.slice (some ⟨g, 0, none⟩) 1 cap] := by
  have hr : Reps (d.K w) d.sz [x] cs := by
    have := (Reps.none (d.K w) d.sz).snoc hk (d.K_len hk)
    rwa [List.nil_append, List.nil_append] at this
  obtain ⟨A, c, e1, hc⟩ := own_reads_row h hr rfl
  injection e1 with e1 e2 e3
  subst e1
  exact ⟨_, cap, rfl, own_le h, hc⟩
/-- Three classes, read. -/
theorem three_C {W : World} {base ob cap : Nat} {c0 c1 c2 : List Value} {x0 x1 x2 : Cl} (ho : W.ownsRow base CT 5 (.slice (some ⟨ob, 0, none⟩) 3 cap) 3 (c0 ++ c1 ++ c2)) (k0 : clK.K W x0 c0) (k1 : clK.K W x1 c1) (k2 : clK.K W x2 c2) : clK.C W (some ⟨ob, 0, none⟩) 3 [x0, x1, x2] := by
  have hr : Reps (clK.K W) 5 [x0, x1, x2] (c0 ++ c1 ++ c2) := by
    have := (((Reps.none (clK.K W) 5).snoc k0 (clK.K_len k0)).snoc k1 (clK.K_len k1)).snoc k2 (clK.K_len k2)
    exact this
  obtain ⟨A, c, e1, hc⟩ := own_reads_row ho hr rfl
  injection e1 with e1 e2 e3
  subst e1
  exact hc
end Go.Proofs.Ytpdjkclacbgneaa
namespace Go.Proofs.Ytpdjkclacbgneaa
open Go.RowKit Go.Shelf Go.Proofs.YtpdjkclacbgneaaW.PrintWords Go.Proofs.Ytpdjkclacbgneaa.Pl

def mB7 : Mt := mtRet ⟨#[109]⟩
def nNo7 : Nm := ⟨#[78, 111, 98, 111, 100, 121]⟩
def fd7 (i : Nat) : Pl.Fd := ⟨fldC i, ⟨1, nil⟩, false⟩
def mP7 : Mt := ⟨⟨#[109]⟩, [⟨1, nil⟩], ⟨0, nil⟩, 2, 0, [⟨33, 0⟩], []⟩
def clA7 (pl : List Cn) (f : Pl.Fd) : Cl := ⟨letC 0, nil, pl, [f], [mB7]⟩
def clB7 (s : Nm) (f : Pl.Fd) (m : Mt) : Cl := ⟨letC 1, s, [], [f], [m]⟩
/-- The nine programs. -/
def lr : Nat → List Cl
  | 0 => [clM7, clA7 [] (fd7 0), clB7 (letC 0) (fd7 0) mB7]
  | 1 => [clM7, clA7 [] (fd7 0), clB7 (letC 0) (fd7 1) mP7]
  | 2 => [clM7, clA7 [] ⟨fldC 0, ⟨4, nNo7⟩, false⟩, clB7 (letC 0) (fd7 1) mB7]
  | 3 => [clM7, clA7 [⟨3, 0, 0, 0, nNo7, nil⟩] (fd7 0), clB7 (letC 0) (fd7 1) mB7]
  | 4 => [clM7, clA7 [⟨4, 0, 0, 0, letC 0, fldC 1⟩] (fd7 0), clB7 (letC 0) (fd7 1) mB7]
  | 5 => [clM7, clA7 [⟨5, 0, 0, 0, nMain, ⟨#[109]⟩⟩] (fd7 0), clB7 (letC 0) (fd7 1) mB7]
  | 6 => [clA7 [] (fd7 0), clB7 (letC 0) (fd7 1) mB7]
  | 7 => [clM7, clA7 [] (fd7 0), clB7 (letC 1) (fd7 1) mB7]
  | _ => [clM7, clA7 [] (fd7 0), clB7 (letC 0) (fd7 1) mB7]
def lrE : Nat → Int
  | 0 => 53 | 1 => 73 | 2 => 70 | 3 => 70 | 4 => 72 | 5 => 72 | 6 => 74 | 7 => 71 | _ => 0
theorem lr_link : ∀ k, k < 9 → (Pl.link (lr k)).1 = lrE k := by
  intro k hk
  rcases (by omega : k = 0 ∨ k = 1 ∨ k = 2 ∨ k = 3 ∨ k = 4 ∨ k = 5 ∨ k = 6 ∨ k = 7 ∨ k = 8) with rfl | rfl | rfl | rfl | rfl | rfl | rfl | rfl | rfl <;> decide +kernel
theorem lr_len : ∀ k, k < 9 → (lr k).length ≤ 3 := by
  intro k hk
  rcases (by omega : k = 0 ∨ k = 1 ∨ k = 2 ∨ k = 3 ∨ k = 4 ∨ k = 5 ∨ k = 6 ∨ k = 7 ∨ k = 8) with rfl | rfl | rfl | rfl | rfl | rfl | rfl | rfl | rfl <;> decide
theorem lr_small : ∀ k, k < 9 → (progOf [] (lr k)).cs.all (fun e => decide (e.2.fields.length ≤ 8)) = true := by
  intro k hk
  rcases (by omega : k = 0 ∨ k = 1 ∨ k = 2 ∨ k = 3 ∨ k = 4 ∨ k = 5 ∨ k = 6 ∨ k = 7 ∨ k = 8) with rfl | rfl | rfl | rfl | rfl | rfl | rfl | rfl | rfl <;> decide +kernel
theorem lr_fields (k : Nat) (hk : k < 9) (h : Hier) (n : Nm) : (clsOf (progOf h (lr k)) n).fields.length ≤ 8 :=
  cls_all (P := fun c => c.fields.length ≤ 8) (p := progOf h (lr k)) (by decide) (fun e he => by
    have := List.all_eq_true.1 (lr_small k hk) e he
    simpa using this) n
/-- What Link answers of the program k. -/
theorem lr_any {k : Nat} (hk : k < 9) {A : Option Addr} {n : Nat} {l : List Cl} (hl : l = lr k) (hn : l.length = n) (c : Nat) {w : World} (h : clK.C w A n l) :
    Calls Try.prog 18 #[.slice A n c] w fun e w' => ∃ pp, e = .returned (.tuple #[.pointer pp, .int .i64 (lrE k)]) ∧ (lrE k = 0 → ∃ pb, pp = some ⟨pb, 0, none⟩) ∧ (lrE k ≠ 0 → pp = none) ∧ Below w.heap.size w w' := by
  subst hl
  subst hn
  refine (link_any (lr k) A c w h (by have := lr_len k hk; omega) (fun _ hh pb cls name w H => field_any pb _ cls name w H (lr_fields k hk hh))).mono ?_
  rintro e w' ⟨pp, rfl, h1, h2, hb⟩
  rw [lr_link k hk] at h1 h2 ⊢
  exact ⟨pp, rfl, fun e => by obtain ⟨pb, e, _⟩ := h1 e; exact ⟨pb, e⟩, h2, hb⟩
theorem two_u8 (w : World) (g : Nat) (h : w.heap[g]? = some (.cells #[.int .u8 0, .int .u8 0] U8 (0, 0))) : (Kd.int .u8).C w (some ⟨g, 0, none⟩) 2 [0, 0] :=
  Kd.C_of_reads (enc := Value.int .u8) (d := (0 : Int)) (h1 := fun _ => rfl) ⟨rfl, by omega, fun _ => ⟨_, rfl, fun j hj => by
    rw [add_zero_off]
    rcases (by omega : j = 0 ∨ j = 1) with rfl | rfl <;> exact Bx.cell ⟨h⟩ rfl⟩⟩
theorem two_bo (w : World) (g : Nat) (h : w.heap[g]? = some (.cells #[.bool true, .bool true] 4 (0, 0))) : Kd.bool.C w (some ⟨g, 0, none⟩) 2 [true, true] :=
  Kd.C_of_reads (enc := Value.bool) (d := false) (h1 := fun _ => rfl) ⟨rfl, by omega, fun _ => ⟨_, rfl, fun j hj => by
    rw [add_zero_off]
    rcases (by omega : j = 0 ∨ j = 1) with rfl | rfl <;> exact Bx.cell ⟨h⟩ rfl⟩⟩
theorem fd_cs {w : World} {base : Nat} {ok : Nat → Prop} {f : Pl.Fd} {cs : List Value} (h : fdK.M w base ok f cs) : cs = fdCs f := by
  obtain ⟨c0, r0, rfl, h0, c1, r1, rfl, h1, h2⟩ := h
  obtain ⟨d0, d1, rfl, h3, h4⟩ := h1
  have h0 : c0 = [.string f.name] := h0
  have h2 : r1 = [.bool f.vol] := h2
  have h3 : d0 = [.int .i64 f.ty.kind] := h3
  have h4 : d1 = [.string f.ty.cls] := h4
  subst h0; subst h2; subst h3; subst h4
  rfl
/-- A store into the field of B, of A; into their classes' words: the three classes then. -/
theorem th_fieldB {W : World} {base ob cap b1 b2 gF cF : Nat} {cM : List Value} {pA fA mA pB mB : Value} {inner : List Value} (T : Th W base ob cap b1 b2 cM pA fA mA pB (.slice (some ⟨gF, 0, none⟩) 1 cF) mB) (hg : b2 ≤ gF ∧ gF ≠ ob) (ho : W.ownsRow base FdT 4 (.slice (some ⟨gF, 0, none⟩) 1 cF) 1 inner) (hi : inner = fdCs (fd7 1)) (ht : ∃ cs, W.heap[gF]? = some (.cells cs FdT (0, 0))) :
    clK.C (W.setCell ⟨gF, 0, none⟩ (.string (fldC 0))) (some ⟨ob, 0, none⟩) 3 (lr 0) := by
  obtain ⟨cells, hcells⟩ := ht
  have far : ∀ k, k ≠ gF → (W.setCell ⟨gF, 0, none⟩ (.string (fldC 0))).heap[k]? = W.heap[k]? := fun k hk => Below.heap_setCell W _ _ k hk
  have o1 := own_setCell T.own (p := ⟨gF, 0, none⟩) (fun e => hg.2 (by injection e)) (.string (fldC 0))
  refine three_C o1 (clK.K_of_M (Kd.M_step T.main (fun k hk _ => far k ?_))) ((T.a.step (fun k hk _ => far k ?_)).K _ _) ?_
  · have := T.le; have := hk.1; omega
  · have := hk.1.2; omega
  · have o2 := own_put ho rfl 0 (.string (fldC 0))
    subst hi
    exact clK_K _ _ (sl_K (Kd.R_set T.b.pool hcells (by decide) 0 (.string (fldC 0)))) (one_K (d := fdK) o2 (fdK_cs _ ⟨fldC 0, ⟨1, nil⟩, false⟩)) (sl_K (Kd.R_set T.b.methods hcells (by decide) 0 (.string (fldC 0))))
/-- Another class's words, A's or B's, stored to. -/
theorem th_outer {W W1 : World} {base ob cap b1 b2 : Nat} {cM : List Value} {pA fA mA pB fB mB : Value} (T : Th W base ob cap b1 b2 cM pA fA mA pB fB mB) (hb : Below W.heap.size W W1) (i : Nat) (u : Value) :
    (W1.setCell ⟨ob, i, none⟩ u).ownsRow base CT 5 (.slice (some ⟨ob, 0, none⟩) 3 cap) 3 ((cM ++ [.string (letC 0), .string nil, pA, fA, mA] ++ [.string (letC 1), .string (letC 0), pB, fB, mB]).set i u) ∧ clK.K (W1.setCell ⟨ob, i, none⟩ u) clM7 cM ∧ Ro (W1.setCell ⟨ob, i, none⟩ u) base (fun k => (b1 ≤ k ∧ k < b2) ∧ k ≠ ob) 0 pA fA mA ∧ Ro (W1.setCell ⟨ob, i, none⟩ u) base (fun k => b2 ≤ k ∧ k ≠ ob) 1 pB fB mB := by
  have far : ∀ k, k ≠ ob → k < W.heap.size → (W1.setCell ⟨ob, i, none⟩ u).heap[k]? = W.heap[k]? := fun k hk hlt => (Below.heap_setCell W1 _ _ k hk).trans (hb.block k hlt)
  exact ⟨own_put (pw_own_below T.own hb) rfl i u, clK.K_of_M (Kd.M_step T.main (fun k hk hlt => far k hk.2 hlt)), T.a.step (fun k hk hlt => far k hk.2 hlt), T.b.step (fun k hk hlt => far k hk.2 hlt)⟩
theorem th_superB {W : World} {base ob cap b1 b2 : Nat} {cM : List Value} {pA fA mA pB fB mB : Value} (T : Th W base ob cap b1 b2 cM pA fA mA pB fB mB) : clK.C (W.setCell ⟨ob, 11, none⟩ (.string (letC 1))) (some ⟨ob, 0, none⟩) 3 (lr 7) := by
  obtain ⟨o1, k0, a, b⟩ := th_outer T (Below.refl _ _) 11 (.string (letC 1))
  have hs : (cM ++ [.string (letC 0), .string nil, pA, fA, mA] ++ [.string (letC 1), .string (letC 0), pB, fB, mB]).set 11 (.string (letC 1)) = cM ++ [.string (letC 0), .string nil, pA, fA, mA] ++ [.string (letC 1), .string (letC 1), pB, fB, mB] := by
    rw [List.set_append_right _ _ (by rw [List.length_append, T.len]; show 5 + 5 ≤ 11; omega), List.length_append, T.len]
    rfl
  rw [hs] at o1
  exact three_C o1 k0 (a.K _ _) (b.K _ _)
theorem th_poolA {W : World} {base ob cap b1 b2 : Nat} {cM : List Value} {pA fA mA pB fB mB : Value} (T : Th W base ob cap b1 b2 cM pA fA mA pB fB mB) (hob : ob < W.heap.size) (x : Cn) : clK.C ((W.alloc (.cells (cnCs x).toArray CnT)).setCell ⟨ob, 7, none⟩ (.slice (some ⟨W.heap.size, 0, none⟩) 1 1)) (some ⟨ob, 0, none⟩) 3 [clM7, clA7 [x] (fd7 0), clB7 (letC 0) (fd7 1) mB7] := by
  obtain ⟨o1, k0, a, b⟩ := th_outer T (balloc W (.cells (cnCs x).toArray CnT)) 7 (.slice (some ⟨W.heap.size, 0, none⟩) 1 1)
  have hs : (cM ++ [.string (letC 0), .string nil, pA, fA, mA] ++ [.string (letC 1), .string (letC 0), pB, fB, mB]).set 7 (.slice (some ⟨W.heap.size, 0, none⟩) 1 1) = cM ++ [.string (letC 0), .string nil, .slice (some ⟨W.heap.size, 0, none⟩) 1 1, fA, mA] ++ [.string (letC 1), .string (letC 0), pB, fB, mB] := by
    rw [List.set_append_left _ _ (by rw [List.length_append, T.len]; show 7 < 5 + 5; omega), List.set_append_right _ _ (by rw [T.len]; omega), T.len]
    rfl
  rw [hs] at o1
  have hx : ((W.alloc (.cells (cnCs x).toArray CnT)).setCell ⟨ob, 7, none⟩ (.slice (some ⟨W.heap.size, 0, none⟩) 1 1)).heap[W.heap.size]? = some (.cells (cnCs x).toArray CnT (0, 0)) := blk_far (blk_new W _) (p := ⟨ob, 7, none⟩) (by show W.heap.size ≠ ob; omega) _
  exact three_C o1 k0 (clK_K _ _ ⟨_, 1, rfl, Nat.le_refl _, row_one cnK hx (cnK_c1 _ x)⟩ (sl_K a.fields) (sl_K a.methods)) (b.K _ _)
theorem th_fieldA {W : World} {base ob cap b1 b2 gF cF : Nat} {cM : List Value} {pA mA pB fB mB : Value} {inner : List Value} (T : Th W base ob cap b1 b2 cM pA (.slice (some ⟨gF, 0, none⟩) 1 cF) mA pB fB mB) (hg : (b1 ≤ gF ∧ gF < b2) ∧ gF ≠ ob) (ho : W.ownsRow base FdT 4 (.slice (some ⟨gF, 0, none⟩) 1 cF) 1 inner) (hi : inner = fdCs (fd7 0)) (ht : ∃ cs, W.heap[gF]? = some (.cells cs FdT (0, 0))) :
    clK.C ((W.setCell ⟨gF, 1, none⟩ (.int .i64 4)).setCell ⟨gF, 2, none⟩ (.string nNo7)) (some ⟨ob, 0, none⟩) 3 (lr 2) := by
  obtain ⟨cells, hcells⟩ := ht
  have hcells1 : (W.setCell ⟨gF, 1, none⟩ (.int .i64 4)).heap[gF]? = some (.cells (cells.setIfInBounds 1 (.int .i64 4)) FdT (0, 0)) := heap_set hcells
  have far : ∀ k, k ≠ gF → ((W.setCell ⟨gF, 1, none⟩ (.int .i64 4)).setCell ⟨gF, 2, none⟩ (.string nNo7)).heap[k]? = W.heap[k]? := fun k hk => (Below.heap_setCell _ _ _ k hk).trans (Below.heap_setCell W _ _ k hk)
  have o1 := own_setCell (own_setCell T.own (p := ⟨gF, 1, none⟩) (fun e => hg.2 (by injection e)) (.int .i64 4)) (p := ⟨gF, 2, none⟩) (fun e => hg.2 (by injection e)) (.string nNo7)
  refine three_C o1 (clK.K_of_M (Kd.M_step T.main (fun k hk _ => far k ?_))) ?_ ((T.b.step (fun k hk _ => far k ?_)).K _ _)
  · have := hk.1; omega
  · have o2 := own_put (own_put ho rfl 1 (.int .i64 4)) rfl 2 (.string nNo7)
    subst hi
    exact clK_K _ _ (sl_K (Kd.R_set (Kd.R_set T.a.pool hcells (by decide) 1 (.int .i64 4)) hcells1 (by decide) 2 (.string nNo7))) (one_K (d := fdK) o2 (fdK_cs _ ⟨fldC 0, ⟨4, nNo7⟩, false⟩)) (sl_K (Kd.R_set (Kd.R_set T.a.methods hcells (by decide) 1 (.int .i64 4)) hcells1 (by decide) 2 (.string nNo7)))
  · have := hk.1; omega
theorem mtK_openM {W : World} {base : Nat} {ok : Nat → Prop} {m : Mt} {cs : List Value} (h : mtK.M W base ok m cs) : ∃ p c t, cs = [.string m.name, p, .int .i64 m.ret.kind, .string m.ret.cls, .int .i64 m.locals, .int .i64 m.stack, c, t] ∧ inK.R NT W base ok c m.code ∧ hnK.R 155 W base ok t m.handlers := by
  obtain ⟨c0, r0, rfl, h0, c1, r1, rfl, ⟨p, h1, _⟩, c2, r2, rfl, ⟨d0, d1, rfl, h3, h4⟩, c5, r5, rfl, h5, c6, r6, rfl, h6, c7, r7, rfl, ⟨c, h7, hc⟩, t, h8, ht⟩ := h
  have h0 : c0 = [.string m.name] := h0
  have h3 : d0 = [.int .i64 m.ret.kind] := h3
  have h4 : d1 = [.string m.ret.cls] := h4
  have h5 : c5 = [.int .i64 m.locals] := h5
  have h6 : c6 = [.int .i64 m.stack] := h6
  subst h0; subst h1; subst h3; subst h4; subst h5; subst h6; subst h7; subst h8
  exact ⟨p, c, t, rfl, hc, ht⟩
/-- A method's words, read. -/
theorem mtK_K {W : World} (name : Nm) (rk : Int) (rc : Nm) (lo st : Int) {ps : List Ty} {cd : List In} {hs : List Hn} {p c t : Value} (hp : (Kd.slice 48 tyK).K W ps [p]) (hc : (Kd.slice NT inK).K W cd [c]) (ht : (Kd.slice 155 hnK).K W hs [t]) :
    mtK.K W ⟨name, ps, ⟨rk, rc⟩, lo, st, cd, hs⟩ [.string name, p, .int .i64 rk, .string rc, .int .i64 lo, .int .i64 st, c, t] :=
  ⟨[.string name], _, rfl, rfl, [p], _, rfl, hp, [.int .i64 rk, .string rc], _, rfl, tyK_cs W ⟨rk, rc⟩, [.int .i64 lo], _, rfl, rfl, [.int .i64 st], _, rfl, rfl, [c], [t], rfl, hc, ht⟩
theorem th_methB {W : World} {base ob cap b1 b2 gM cX : Nat} {cM : List Value} {pA fA mA pB fB p c t : Value} (T : Th W base ob cap b1 b2 cM pA fA mA pB fB (.slice (some ⟨gM, 0, none⟩) 1 cX)) (hg : b2 ≤ gM ∧ gM ≠ ob)
    (ho : W.ownsRow base MT 8 (.slice (some ⟨gM, 0, none⟩) 1 cX) 1 [.string ⟨#[109]⟩, p, .int .i64 0, .string nil, .int .i64 1, .int .i64 0, c, t]) (hc : inK.R NT W base (fun k => (b2 ≤ k ∧ k ≠ ob) ∧ k ≠ gM) c [⟨33, 0⟩]) (ht : hnK.R 155 W base (fun k => (b2 ≤ k ∧ k ≠ ob) ∧ k ≠ gM) t []) (hlt : gM < W.heap.size) (hbl : ∃ cs, W.heap[gM]? = some (.cells cs MT (0, 0))) :
    clK.C (((W.alloc (.cells #[.int .i64 1, .string nil] 48)).setCell ⟨gM, 1, none⟩ (.slice (some ⟨W.heap.size, 0, none⟩) 1 1)).setCell ⟨gM, 4, none⟩ (.int .i64 2)) (some ⟨ob, 0, none⟩) 3 (lr 1) := by
  obtain ⟨cells, hcells⟩ := hbl
  have hb := balloc W (.cells #[.int .i64 1, .string nil] 48)
  obtain ⟨W3, hW3⟩ : ∃ W3, (((W.alloc (.cells #[.int .i64 1, .string nil] 48)).setCell ⟨gM, 1, none⟩ (.slice (some ⟨W.heap.size, 0, none⟩) 1 1)).setCell ⟨gM, 4, none⟩ (.int .i64 2)) = W3 := ⟨_, rfl⟩
  have far : ∀ k, k ≠ gM → k < W.heap.size → W3.heap[k]? = W.heap[k]? := fun k hk hl => by
    rw [← hW3]
    exact (Below.heap_setCell _ _ _ k hk).trans ((Below.heap_setCell _ _ _ k hk).trans (hb.block k hl))
  have o1 := own_setCell (own_setCell (pw_own_below T.own hb) (p := ⟨gM, 1, none⟩) (fun e => hg.2 (by injection e)) (.slice (some ⟨W.heap.size, 0, none⟩) 1 1)) (p := ⟨gM, 4, none⟩) (fun e => hg.2 (by injection e)) (.int .i64 2)
  have o2 := own_put (own_put (pw_own_below ho hb) rfl 1 (.slice (some ⟨W.heap.size, 0, none⟩) 1 1)) rfl 4 (.int .i64 2)
  have hx : W3.heap[W.heap.size]? = some (.cells ([.int .i64 1, .string nil] : List Value).toArray 48 (0, 0)) := by
    rw [← hW3]
    exact blk_far (blk_far (blk_new W _) (p := ⟨gM, 1, none⟩) (by show W.heap.size ≠ gM; omega) _) (p := ⟨gM, 4, none⟩) (by show W.heap.size ≠ gM; omega) _
  rw [hW3] at o1 o2 ⊢
  have o2 : W3.ownsRow base MT 8 (.slice (some ⟨gM, 0, none⟩) 1 cX) 1 [.string ⟨#[109]⟩, .slice (some ⟨W.heap.size, 0, none⟩) 1 1, .int .i64 0, .string nil, .int .i64 2, .int .i64 0, c, t] := o2
  refine three_C o1 (clK.K_of_M (Kd.M_step T.main (fun k hk hl => far k ?_ hl))) ((T.a.step (fun k hk hl => far k ?_ hl)).K _ _) ?_
  · have := T.le; have := hk.1; omega
  · have := hk.1.2; omega
  · have hP := Kd.R_types T.b.pool hcells (by decide)
    have hF := Kd.R_types T.b.fields hcells (by decide)
    exact clK_K _ _ (sl_K (Kd.R_step hP (fun k hk hl => far k hk.2 hl))) (sl_K (Kd.R_step hF (fun k hk hl => far k hk.2 hl)))
      (one_K (d := mtK) o2 (mtK_K ⟨#[109]⟩ 0 nil 2 0 (ps := [⟨1, nil⟩]) ⟨_, 1, rfl, Nat.le_refl _, row_one tyK hx (tyK_cs _ ⟨1, nil⟩)⟩ (sl_K (Kd.R_step hc (fun k hk hl => far k hk.2 hl))) (sl_K (Kd.R_step ht (fun k hk hl => far k hk.2 hl)))))
end Go.Proofs.Ytpdjkclacbgneaa
namespace Go.Proofs.Ytpdjkclacbgneaa
open Go.RowKit Go.Shelf Go.Proofs.YtpdjkclacbgneaaW.PrintWords Go.Proofs.Ytpdjkclacbgneaa.Pl

/-- A word of the chain's outer row. -/
theorem th_at {W : World} {base ob cap b1 b2 : Nat} {cM : List Value} {pA fA mA pB fB mB : Value} (T : Th W base ob cap b1 b2 cM pA fA mA pB fB mB) (i : Nat) (u : Value) (hu : (cM ++ [.string (letC 0), .string nil, pA, fA, mA] ++ [.string (letC 1), .string (letC 0), pB, fB, mB])[i]? = some u) : W.cell? ⟨ob, i, none⟩ = some u ∧ W.frozen? ⟨ob, i, none⟩ = false := own_at1 T.own rfl i u hu
theorem th_get {cM : List Value} (h : cM.length = 5) (a b : List Value) (i : Nat) : (cM ++ a ++ b)[5 + i]? = (a ++ b)[i]? := by
  rw [List.append_assoc, List.getElem?_append_right (by omega), h]
  congr 1
  omega
/-- The chain as it is; without Main. -/
theorem th_same {W : World} {base ob cap b1 b2 : Nat} {cM : List Value} {pA fA mA pB fB mB : Value} (T : Th W base ob cap b1 b2 cM pA fA mA pB fB mB) : clK.C W (some ⟨ob, 0, none⟩) 3 (lr 8) := three_C T.own (clK.K_of_M T.main) (T.a.K _ _) (T.b.K _ _)
theorem th_tail {W : World} {base ob cap b1 b2 : Nat} {cM : List Value} {pA fA mA pB fB mB : Value} (T : Th W base ob cap b1 b2 cM pA fA mA pB fB mB) : clK.C W (some ⟨ob, 5, none⟩) 2 (lr 6) := by
  have h : clK.C W (if cap = 1 then some ⟨ob, 0, none⟩ else (some ⟨ob, 0, none⟩ : Option Addr).map (·.add (1 * clK.sz))) ((lr 8).drop 1).length ((lr 8).drop 1) := Kd.C_drop (xs := lr 8) (c := cap) (th_same T) (by decide) (own_le T.own)
  rw [if_neg (by have := own_le T.own; omega)] at h
  exact h
set_option maxRecDepth 100000 in
set_option maxHeartbeats 40000000 in
theorem refuses_walk (x : Int) (w0 : (Lit.int .u8 x).wf = true) (w : World) : Calls Try.prog 9 #[.int .u8 x] w fun e w' => e = .returned (.bool true) ∧ Below w.heap.size w w' := by
  obtain ⟨x0, x1⟩ := bounds_u8 w0
  clear w0
  go_enter Try.func9, Try.ntmps9
  go_wp2_with fail
  refine (known7_any w).mono ?_
  rintro e1 w1 ⟨rfl, hb1⟩
  have B1 := Aside0.mk hb1
  clear hb1
  have hu := two_u8 ((w1.alloc (.cells #[.int .u8 0, .int .u8 0] U8)).alloc (.cells #[.bool true, .bool true] 4)) w1.heap.size (blk_alloc (blk_new w1 _) _)
  have hh := two_bo ((w1.alloc (.cells #[.int .u8 0, .int .u8 0] U8)).alloc (.cells #[.bool true, .bool true] 4)) (w1.heap.size + 1) (blk_second w1 _ _)
  have CA := Aside0.mk (chain_str [0, 0] [true, true] _ _ 2 2 _ hu (fun n hn => by have e : n = 0 := by simpa using hn
                                                                                   rw [e]; decide) hh (by decide))
  have B2 := Aside0.mk (bthen B1.out (bthen (balloc w1 (.cells #[.int .u8 0, .int .u8 0] U8)) (balloc _ (.cells #[.bool true, .bool true] 4))))
  clear hu hh
  go_wp2_with fail
  refine CA.out.mono ?_
  rintro e2 W ⟨v, rfl, hS, hb2⟩
  obtain ⟨ob, cap, b1, b2, cM, pA, fA, mA, pB, fB, mB, rfl, T⟩ := str_three hS
  have B3 := Aside0.mk (bthen B2.out hb2)
  have hobl : ob < W.heap.size := own_lt T.own ob rfl
  have hbs : w.heap.size ≤ ((w1.alloc (.cells #[.int .u8 0, .int .u8 0] U8)).alloc (.cells #[.bool true, .bool true] 4)).heap.size := B2.out.size
  obtain ⟨bs, hbsz⟩ : ∃ bs, ((w1.alloc (.cells #[.int .u8 0, .int .u8 0] U8)).alloc (.cells #[.bool true, .bool true] 4)).heap.size = bs := ⟨_, rfl⟩
  rw [hbsz] at T hbs
  have HC := Lib.hid (own_le T.own)
  have HBS := Lib.hid hbs
  have hob0 := own_base T.own ob rfl
  have HT := Aside0.mk T
  clear hS hb2 CA T hbsz
  have hx9 : x.tmod 9 = x % 9 := Int.tmod_eq_emod_of_nonneg x0
  obtain ⟨k, hk⟩ : ∃ k : Nat, x % 9 = k := ⟨(x % 9).toNat, by omega⟩
  have hk9 : k < 9 := by omega
  rw [hk] at hx9
  clear hk x0 x1
  rcases (by omega : k = 0 ∨ k = 1 ∨ k = 2 ∨ k = 3 ∨ k = 4 ∨ k = 5 ∨ k = 6 ∨ k = 7 ∨ k = 8) with rfl | rfl | rfl | rfl | rfl | rfl | rfl | rfl | rfl
  · -- the field's name twice
    obtain ⟨gF, cF, inner, rfl, hg, ho, hm⟩ := row1_open HT.out.b.fields
    have hi := fd_cs hm
    obtain ⟨cells, hcells⟩ := own_typed ho gF rfl
    have LK := Aside0.mk (lr_any (k := 0) (by decide) rfl rfl cap (th_fieldB HT.out hg ho hi ⟨cells, hcells⟩))
    obtain ⟨c13, _⟩ := th_at HT.out 13 (.slice (some ⟨gF, 0, none⟩) 1 cF) ((th_get HT.out.len _ _ 8).trans rfl)
    obtain ⟨d0, z0⟩ := own_at1 ho rfl 0 (.string (fldC 1)) (by rw [hi]; rfl)
    have B4 := Aside0.mk (B3.out.setCell (p := ⟨gF, 0, none⟩) (Nat.le_trans HBS.out (own_base ho gF rfl)) (.string (fldC 0)))
    clear hm hi hcells ho hg
    go_wp2_with fail
    refine LK.out.mono ?_
    rintro e5 w5 ⟨pp, rfl, hp0, hp1, hb5⟩
    have B5 := Aside0.mk (bthen B4.out hb5)
    obtain rfl := hp1 (by decide)
    clear LK hp0 hb5 hp1
    go_wp2
    go_ret
    exact ⟨rfl, B5.out⟩
  · -- another method's types
    obtain ⟨gM, cX, inner, rfl, hg, ho, hm⟩ := row1_open HT.out.b.methods
    obtain ⟨p, c, t, rfl, hc, ht⟩ := mtK_openM hm
    obtain ⟨cells, hcells⟩ := own_typed ho gM rfl
    have hlt := blk_lt hcells
    have LK := Aside0.mk (lr_any (k := 1) (by decide) rfl rfl cap (Kd.C_below (th_methB HT.out hg ho hc ht hlt ⟨cells, hcells⟩) (below_drew (Below.refl _ _))))
    obtain ⟨c14, _⟩ := th_at HT.out 14 (.slice (some ⟨gM, 0, none⟩) 1 cX) ((th_get HT.out.len _ _ 9).trans rfl)
    obtain ⟨d1, z1⟩ := own_at1 ho rfl 1 p rfl
    obtain ⟨d4, z4⟩ := own_at1 (own_put ho rfl 1 (.slice (some ⟨W.heap.size, 0, none⟩) 1 1)) rfl 4 (.int .i64 1) rfl
    obtain ⟨d5, z5⟩ := own_at1 ho rfl 4 (.int .i64 1) rfl
    have hsz : (W.setCell ⟨gM, 1, none⟩ (.slice (some ⟨W.heap.size, 0, none⟩) 1 1)).heap.size = W.heap.size := by simp [World.setCell]
    have LK : Aside0 (Calls Try.prog 18 #[.slice (some ⟨ob, 0, none⟩) 3 cap] (((W.setCell ⟨gM, 1, none⟩ (.slice (some ⟨W.heap.size, 0, none⟩) 1 1)).setCell ⟨gM, 4, none⟩ (.int .i64 2)).alloc (.cells #[.int .i64 1, .string ⟨#[]⟩] 48)).drew _) := ⟨by
      have := LK.out
      rw [World.setCell_alloc_past _ _ _ _ hlt, World.setCell_alloc_past _ _ _ _ (by rw [hsz]; exact hlt)] at this
      exact this⟩
    have hgb := own_base ho gM rfl
    have B4 := Aside0.mk (below_drew (bthen ((B3.out.setCell (p := ⟨gM, 1, none⟩) (Nat.le_trans HBS.out hgb) (.slice (some ⟨W.heap.size, 0, none⟩) 1 1)).setCell (p := ⟨gM, 4, none⟩) (Nat.le_trans HBS.out hgb) (.int .i64 2)) (balloc _ (.cells #[.int .i64 1, .string ⟨#[]⟩] 48))))
    clear hm hc ht hcells ho hg hsz
    go_wp2_with fail
    go_region
    go_wp2_with fail
    refine LK.out.mono ?_
    rintro e5 w5 ⟨pp, rfl, hp0, hp1, hb5⟩
    have B5 := Aside0.mk (bthen B4.out hb5)
    obtain rfl := hp1 (by decide)
    clear LK hp0 hb5 hp1
    go_wp2
    go_ret
    exact ⟨rfl, B5.out⟩
  · -- a field of a class that isn't
    obtain ⟨gF, cF, inner, rfl, hg, ho, hm⟩ := row1_open HT.out.a.fields
    have hi := fd_cs hm
    obtain ⟨cells, hcells⟩ := own_typed ho gF rfl
    have LK := Aside0.mk (lr_any (k := 2) (by decide) rfl rfl cap (th_fieldA HT.out hg ho hi ⟨cells, hcells⟩))
    obtain ⟨c8, _⟩ := th_at HT.out 8 (.slice (some ⟨gF, 0, none⟩) 1 cF) ((th_get HT.out.len _ _ 3).trans rfl)
    obtain ⟨d1, z1⟩ := own_at1 ho rfl 1 (.int .i64 1) (by rw [hi]; rfl)
    obtain ⟨d2, z2⟩ := own_at1 (own_put ho rfl 1 (.int .i64 4)) rfl 2 (.string nil) (by rw [hi]; rfl)
    have B4 := Aside0.mk ((B3.out.setCell (p := ⟨gF, 1, none⟩) (Nat.le_trans HBS.out (own_base ho gF rfl)) (.int .i64 4)).setCell (p := ⟨gF, 2, none⟩) (Nat.le_trans HBS.out (own_base ho gF rfl)) (.string nNo7))
    clear hm hi hcells ho hg
    go_wp2_with fail
    refine LK.out.mono ?_
    rintro e5 w5 ⟨pp, rfl, hp0, hp1, hb5⟩
    have B5 := Aside0.mk (bthen B4.out hb5)
    obtain rfl := hp1 (by decide)
    clear LK hp0 hb5 hp1
    go_wp2
    go_ret
    exact ⟨rfl, B5.out⟩
  · -- a constant
    have LK := Aside0.mk (lr_any (k := 3) (by decide) rfl rfl cap (th_poolA HT.out hobl ⟨3, 0, 0, 0, nNo7, nil⟩))
    obtain ⟨c7, z7⟩ := th_at HT.out 7 pA ((th_get HT.out.len _ _ 2).trans rfl)
    have LK : Aside0 (Calls Try.prog 18 #[.slice (some ⟨ob, 0, none⟩) 3 cap] ((W.setCell ⟨ob, 7, none⟩ (.slice (some ⟨W.heap.size, 0, none⟩) 1 1)).alloc (.cells #[.int .i64 3, .int .i64 0, .complex .f64 0 0, .string ⟨#[78, 111, 98, 111, 100, 121]⟩, .string ⟨#[]⟩] CnT)) _) := ⟨by
      have := LK.out
      rw [World.setCell_alloc_past _ _ _ _ hobl] at this
      exact this⟩
    have B4 := Aside0.mk (bthen (B3.out.setCell (p := ⟨ob, 7, none⟩) (Nat.le_trans HBS.out hob0) (.slice (some ⟨W.heap.size, 0, none⟩) 1 1)) (balloc _ (.cells #[.int .i64 3, .int .i64 0, .complex .f64 0 0, .string ⟨#[78, 111, 98, 111, 100, 121]⟩, .string ⟨#[]⟩] CnT)))
    go_wp2_with fail
    refine LK.out.mono ?_
    rintro e5 w5 ⟨pp, rfl, hp0, hp1, hb5⟩
    have B5 := Aside0.mk (bthen B4.out hb5)
    obtain rfl := hp1 (by decide)
    clear LK hp0 hb5 hp1
    go_wp2
    go_ret
    exact ⟨rfl, B5.out⟩
  · -- a constant
    have LK := Aside0.mk (lr_any (k := 4) (by decide) rfl rfl cap (th_poolA HT.out hobl ⟨4, 0, 0, 0, letC 0, fldC 1⟩))
    obtain ⟨c7, z7⟩ := th_at HT.out 7 pA ((th_get HT.out.len _ _ 2).trans rfl)
    have LK : Aside0 (Calls Try.prog 18 #[.slice (some ⟨ob, 0, none⟩) 3 cap] ((W.setCell ⟨ob, 7, none⟩ (.slice (some ⟨W.heap.size, 0, none⟩) 1 1)).alloc (.cells #[.int .i64 4, .int .i64 0, .complex .f64 0 0, .string ⟨#[65]⟩, .string ⟨#[102, 66]⟩] CnT)) _) := ⟨by
      have := LK.out
      rw [World.setCell_alloc_past _ _ _ _ hobl] at this
      exact this⟩
    have B4 := Aside0.mk (bthen (B3.out.setCell (p := ⟨ob, 7, none⟩) (Nat.le_trans HBS.out hob0) (.slice (some ⟨W.heap.size, 0, none⟩) 1 1)) (balloc _ (.cells #[.int .i64 4, .int .i64 0, .complex .f64 0 0, .string ⟨#[65]⟩, .string ⟨#[102, 66]⟩] CnT)))
    go_wp2_with fail
    refine LK.out.mono ?_
    rintro e5 w5 ⟨pp, rfl, hp0, hp1, hb5⟩
    have B5 := Aside0.mk (bthen B4.out hb5)
    obtain rfl := hp1 (by decide)
    clear LK hp0 hb5 hp1
    go_wp2
    go_ret
    exact ⟨rfl, B5.out⟩
  · -- a constant
    have LK := Aside0.mk (lr_any (k := 5) (by decide) rfl rfl cap (th_poolA HT.out hobl ⟨5, 0, 0, 0, nMain, ⟨#[109]⟩⟩))
    obtain ⟨c7, z7⟩ := th_at HT.out 7 pA ((th_get HT.out.len _ _ 2).trans rfl)
    have LK : Aside0 (Calls Try.prog 18 #[.slice (some ⟨ob, 0, none⟩) 3 cap] ((W.setCell ⟨ob, 7, none⟩ (.slice (some ⟨W.heap.size, 0, none⟩) 1 1)).alloc (.cells #[.int .i64 5, .int .i64 0, .complex .f64 0 0, .string ⟨#[77, 97, 105, 110]⟩, .string ⟨#[109]⟩] CnT)) _) := ⟨by
      have := LK.out
      rw [World.setCell_alloc_past _ _ _ _ hobl] at this
      exact this⟩
    have B4 := Aside0.mk (bthen (B3.out.setCell (p := ⟨ob, 7, none⟩) (Nat.le_trans HBS.out hob0) (.slice (some ⟨W.heap.size, 0, none⟩) 1 1)) (balloc _ (.cells #[.int .i64 5, .int .i64 0, .complex .f64 0 0, .string ⟨#[77, 97, 105, 110]⟩, .string ⟨#[109]⟩] CnT)))
    go_wp2_with fail
    refine LK.out.mono ?_
    rintro e5 w5 ⟨pp, rfl, hp0, hp1, hb5⟩
    have B5 := Aside0.mk (bthen B4.out hb5)
    obtain rfl := hp1 (by decide)
    clear LK hp0 hb5 hp1
    go_wp2
    go_ret
    exact ⟨rfl, B5.out⟩
  · -- no Main
    obtain ⟨c3, hc3⟩ : ∃ c3, cap = c3 + 3 := ⟨cap - 3, by have := HC.out; omega⟩
    subst hc3
    obtain ⟨i0, hi, hzz⟩ := Option.map_eq_some_iff.1 clInfo
    simp only [Prod.mk.injEq, decide_eq_true_eq] at hzz
    have hcut := cut_from (P := Try.prog) 45 CT .i64 Try.underlying45 hi 5 hzz.2.1 (some ⟨ob, 0, none⟩) 3 (c3 + 3) 1 (by decide) (by decide) W
    rw [if_neg (by show ¬ c3 + 3 = 1; omega)] at hcut
    have hcut : (Instr.slice 45 (.slice (some ⟨ob, 0, none⟩) 3 (c3 + 3)) (some (.int .i64 1)) none none).run Try.prog W = .ok (.slice (some ⟨ob, 5, none⟩) 2 (c3 + 2)) W := hcut
    have LK := Aside0.mk (lr_any (k := 6) (by decide) rfl rfl (c3 + 2) (th_tail HT.out))
    clear hi hzz
    have B4 := B3
    go_wp2_with fail
    refine LK.out.mono ?_
    rintro e5 w5 ⟨pp, rfl, hp0, hp1, hb5⟩
    have B5 := Aside0.mk (bthen B4.out hb5)
    obtain rfl := hp1 (by decide)
    clear LK hp0 hb5 hp1
    go_wp2
    go_ret
    exact ⟨rfl, B5.out⟩
  · -- a circle
    have LK := Aside0.mk (lr_any (k := 7) (by decide) rfl rfl cap (th_superB HT.out))
    obtain ⟨c11, z11⟩ := th_at HT.out 11 (.string (letC 0)) ((th_get HT.out.len _ _ 6).trans rfl)
    have B4 := Aside0.mk (B3.out.setCell (p := ⟨ob, 11, none⟩) (Nat.le_trans HBS.out hob0) (.string (letC 1)))
    go_wp2_with fail
    refine LK.out.mono ?_
    rintro e5 w5 ⟨pp, rfl, hp0, hp1, hb5⟩
    have B5 := Aside0.mk (bthen B4.out hb5)
    obtain rfl := hp1 (by decide)
    clear LK hp0 hb5 hp1
    go_wp2
    go_ret
    exact ⟨rfl, B5.out⟩
  · -- all is well
    have LK := Aside0.mk (lr_any (k := 8) (by decide) rfl rfl cap (th_same HT.out))
    have B4 := B3
    go_wp2_with fail
    refine LK.out.mono ?_
    rintro e5 w5 ⟨pp, rfl, hp0, hp1, hb5⟩
    have B5 := Aside0.mk (bthen B4.out hb5)
    obtain ⟨pb, rfl⟩ := hp0 rfl
    clear LK hp0 hb5 hp1
    go_wp2
    go_ret
    exact ⟨rfl, B5.out⟩
end Go.Proofs.Ytpdjkclacbgneaa
